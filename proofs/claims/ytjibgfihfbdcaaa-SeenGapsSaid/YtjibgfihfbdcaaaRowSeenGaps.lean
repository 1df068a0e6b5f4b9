/- The row of SeenGaps: whatever the arguments that can be read as data, the call returns true and they read as before. No condition. -/
import Derived.Test.YtjibgfihfbdcaaaRows
import Derived.Test.YtjibgfihfbdcaaaGapsWalk
import Derived.Test.YtjibgfihfbdcaaaXOpenZ
import Derived.WalkKit
import Derived.ProofKit
import Derived.OpenShut
import Derived.ShutString
import Derived.ChangeOld
import Derived.Below
import Derived.SizedLaws
namespace Go.Proofs.Ytjibgfihfbdcaaa.seenGaps
open Go.ChangeShapes Go.WideShapes Go.ChangeAt Go.RowKit Go.Proofs.YtjibgfihfbdcaaaW.PrintWords Go.Proofs.Ytjibgfihfbdcaaa.PSeen
open Go.ChangeMaps (open_string shut_string)
set_option linter.unusedVariables false
set_option linter.unusedSimpArgs false
theorem own : ownKnob Try.prog.godebug = none := by kernel_rfl
theorem laidOut : laidOutB Try.prog = true := by kernel_rfl
/-- What is known of each field. -/
def ok47 (x : S47) : Prop := (fun n => (Lit.int .i64 n).wf = true) x.f0 ∧ (fun n => (Lit.int .i64 n).wf = true) x.f1
theorem open47 : OpensZ Try.prog 47 k47 ok47 :=
  OpensZ.mono (OpensZ.iso (OpensZ.struct (total := 2) Try.underlying47 (by kernel_rfl) (OpensZF.cons rfl (by kernel_rfl) (OpensZ.int Try.underlying3) (OpensZF.last rfl (by kernel_rfl) (OpensZ.int Try.underlying3)))) (fun x : S47 => (x.f0, x.f1)) (fun p => ⟨p.1, p.2⟩) (fun _ => rfl)) (fun _ h => h)
/-- What is known of each field. -/
def ok45 (x : S45) : Prop := (fun n => (Lit.int .i64 n).wf = true) x.f0 ∧ (fun xs => xs.length * 16 ≤ 140737488351232 ∧ ∀ a ∈ xs, ok47 a) x.f1
theorem open45 : OpensZ Try.prog 45 k45 ok45 :=
  OpensZ.mono (OpensZ.iso (OpensZ.struct (total := 2) Try.underlying45 (by kernel_rfl) (OpensZF.cons rfl (by kernel_rfl) (OpensZ.int Try.underlying3) (OpensZF.last rfl (by kernel_rfl) (OpensZ.slice (B := 16) Try.underlying43 (by kernel_rfl) (by kernel_rfl) open47)))) (fun x : S45 => (x.f0, x.f1)) (fun p => ⟨p.1, p.2⟩) (fun _ => rfl)) (fun _ h => h)
set_option maxRecDepth 100000 in
set_option maxHeartbeats 4000000 in
theorem lifted (os : Os) (started : os.Started) (H : Type) (enc : TypeId × Value → H) :
    ReturnsInHanded {} Try.checked os 7 .any (Rows.seenGapsSpec.pre6 enc Try.prog Try.f7 Rows.seenGapsRow.domain false) (Rows.seenGapsSpec.post enc Try.prog Try.f7 false true false false) := by
  refine returnsInHanded_of_change_sized (C := Try.checked) own started (by kernel_rfl) Try.func7
    (ChangeSpec.witness6 (enc := enc) (C := Try.checked) false ⟨#[], #[.slice none 0 0, .int .i64 0], []⟩ 8 (by kernel_rfl) (by kernel_rfl) (by kernel_rfl) (by kernel_rfl)) ?_
  intro W base args ds gs before hval0 hW hcnd hsz0 _
  have hval : ∀ (j : Nat) t v, Try.f7.params[j]? = some t → args[j]? = some v → Value.okWide Try.prog W .any base t v := hval0
  have hW' := hW
  obtain ⟨p, q, hA0, hV, rfl, hfz, hnd⟩ := hW
  have hA : DataW.TrodAll enc Try.prog W 0 (fun _ => true) true Try.f7.params.toList args.toList ds p := hA0
  have hsz := hsz0
  rw [Try.params7] at hA hval hsz
  obtain ⟨v0, vs0, d0, ds0, p0, q0, hargs, rfl, rfl, h0, r0⟩ := trodAll_cons hA
  obtain ⟨v1, vs1, d1, ds1, p1, q1, rfl, rfl, rfl, h1, r1⟩ := trodAll_cons r0
  obtain ⟨rfl, rfl, rfl⟩ := trodAll_nil r1
  obtain rfl : args = #[v0, v1] := by cases args; simp_all
  obtain ⟨rfl, rfl⟩ := trodVars_none hV
  have k0 := h0
  have lt0 : ∀ x ∈ p0, x.block < W.heap.size := by obtain ⟨m, hm⟩ := k0; exact DataW.trod_lt m _ _ _ hm
  obtain ⟨a0, len0, cap0, rfl⟩ := okWide_slice Try.underlying22 (hval 0 22 v0 rfl rfl)
  obtain ⟨x0, ⟨A0, c0, hcs0, hc0, hr0⟩, w0⟩ := (let ⟨f, hf⟩ := h0; (OpensZ.slice (B := 32) Try.underlying22 (by kernel_rfl) (by kernel_rfl) open45) _ _ _ _ _ _ f _ _ hf (light_at hsz (j := 0) (t := 22) rfl rfl))
  simp only [Value.cells, List.cons.injEq, and_true, Value.slice.injEq] at hcs0
  obtain ⟨rfl, rfl, rfl⟩ := hcs0
  have k1 := h1
  have lt1 : ∀ x ∈ p1, x.block < W.heap.size := by obtain ⟨m, hm⟩ := k1; exact DataW.trod_lt m _ _ _ hm
  obtain ⟨a1, rfl, _, _, w1⟩ := open_int Try.underlying3 (hval 1 3 v1 rfl rfl) h1
  (try clear hA0 hval0 hsz0 hsz)
  refine (gaps.calls _ _ x0 a1 W hr0 hc0 (Pl.reach_row w0.2) (Pl.wf64 w1)).mono fun e W' ⟨he, bel⟩ => ?_
  subst he
  exact ⟨_, rfl, _, _, _, [], _, [], hW', trodAll_mk1 (shut_bool Try.underlying4 _), (trodAll_cons_mk (Below.trod laidOut (by kernel_rfl) (of_decide_eq_true (by kernel_rfl)) k0 bel lt0) (trodAll_cons_mk (Below.trod laidOut (by kernel_rfl) (of_decide_eq_true (by kernel_rfl)) k1 bel lt1) trodAll_mk0)), rfl, bel.frame _, fun h => by cases h⟩
theorem over : Rows.seenGapsRow.holds Try.pinned (OpenSpec.ofChange Rows.seenGapsSpec) :=
  OpenClaim.holds_of_wide 7 Try.f7 rfl rfl rfl rfl rfl rfl rfl ⟨rfl, rfl, rfl, rfl, rfl⟩ rfl rfl rfl rfl rfl (by kernel_rfl) Try.func7 (by kernel_rfl)
    (of_decide_eq_true (by kernel_rfl)) (by unfold Func.isWrapper; first | (rw [if_pos (by decide +kernel)]; kernel_rfl) | (rw [if_neg (by decide +kernel)]; exact ⟨rfl, rfl⟩))
    (fun os started H enc _ => lifted os started H enc)
theorem proved : Rows.SeenGapsSaid := over
#print axioms proved
end Go.Proofs.Ytjibgfihfbdcaaa.seenGaps
namespace Go.Proofs.Ytjibgfihfbdcaaa
/-- The row, under a short name, for the claim. -/
theorem seenGaps_holds : Rows.SeenGapsSaid := seenGaps.proved
end Go.Proofs.Ytjibgfihfbdcaaa
