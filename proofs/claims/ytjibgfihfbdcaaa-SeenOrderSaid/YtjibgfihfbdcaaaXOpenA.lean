/- Words of this session: an array of two whole numbers that can be read as data is of its kind. -/
import Derived.Test.YtjibgfihfbdcaaaXOpenZ
namespace Go.Proofs.YtjibgfihfbdcaaaW.PrintWords
open Go.RowKit Go.Deep
set_option linter.unusedVariables false
theorem OpensZ.arr2 {P : Program} {t e : TypeId} {k : IntKind} (ht : P.underlying t = some (.array 2 e)) (he : P.underlying e = some (.int k)) (hc : P.cellsOf e = 1) (hct : P.cellsOf t = 2) : OpensZ P t (Kd.pair (Kd.int k) (Kd.int k)) (fun x => (Lit.int k x.1).wf = true ∧ (Lit.int k x.2).wf = true) := fun H enc W base spare held fuel cs x hx _ => by
  obtain ⟨xs, m, _, _, hlen, hxl, hg⟩ := DataW.trod_array ht hx
  rw [hct] at hlen
  have h0 := hg 0 (by omega)
  have h1 := hg 1 (by omega)
  rw [hc] at h0 h1
  have l0 : 0 < xs.length := by omega
  have l1 : 1 < xs.length := by omega
  rw [List.getElem?_eq_getElem l0] at h0
  rw [List.getElem?_eq_getElem l1] at h1
  match cs, hlen with
  | [a, b], _ =>
    obtain ⟨n0, e0, _, w0⟩ := DataW.trod_int he h0
    obtain ⟨n1, e1, _, w1⟩ := DataW.trod_int he h1
    have ea : a = .int k n0 := by simpa using e0
    have eb : b = .int k n1 := by simpa using e1
    subst ea
    subst eb
    exact ⟨(n0, n1), ⟨[.int k n0], [.int k n1], rfl, rfl, rfl⟩, w0, w1⟩
end Go.Proofs.YtjibgfihfbdcaaaW.PrintWords
