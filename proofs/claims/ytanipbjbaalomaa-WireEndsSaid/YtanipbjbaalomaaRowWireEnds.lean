/- The row of WireEnds: whatever the arguments that can be read as data, the call returns true and they read as before. No condition. -/
import Derived.Test.YtanipbjbaalomaaRows
import Derived.Test.YtanipbjbaalomaaPWirex13
import Derived.Test.YtanipbjbaalomaaPureWireEnds
import Derived.Test.YtanipbjbaalomaaXOpen
import Derived.WalkKit
import Derived.ProofKit
import Derived.OpenShut
import Derived.ShutString
import Derived.ChangeOld
import Derived.Below
import Derived.SizedLaws
namespace Go.Proofs.Ytanipbjbaalomaa.wireEnds
open Go.ChangeShapes Go.WideShapes Go.ChangeAt Go.RowKit Go.Proofs.YtanipbjbaalomaaW.PrintWords Go.Proofs.Ytanipbjbaalomaa.PWire
open Go.ChangeMaps (open_string shut_string)
set_option linter.unusedVariables false
set_option linter.unusedSimpArgs false
theorem own : ownKnob Try.prog.godebug = none := by kernel_rfl
theorem laidOut : laidOutB Try.prog = true := by kernel_rfl
/-- What is known of each field. -/
def ok24 (x : S24) : Prop := (fun n => (Lit.int .i64 n).wf = true) x.f0 ∧ (fun n => (Lit.int .i64 n).wf = true) x.f1 ∧ (fun n => (Lit.int .i64 n).wf = true) x.f2 ∧ (fun n => (Lit.int .i64 n).wf = true) x.f3 ∧ (fun n => (Lit.int .i64 n).wf = true) x.f4 ∧ (fun xs => xs.length ≤ maxLen ∧ ∀ a ∈ xs, (fun n => (Lit.int .u8 n).wf = true) a) x.f5
theorem open24 : Opens Try.prog 24 k24 ok24 :=
  Opens.mono (Opens.iso (Opens.struct (total := 6) Try.underlying24 (by kernel_rfl) (OpensF.cons rfl (by kernel_rfl) (Opens.int Try.underlying3) (OpensF.cons rfl (by kernel_rfl) (Opens.int Try.underlying3) (OpensF.cons rfl (by kernel_rfl) (Opens.int Try.underlying3) (OpensF.cons rfl (by kernel_rfl) (Opens.int Try.underlying3) (OpensF.cons rfl (by kernel_rfl) (Opens.int Try.underlying3) (OpensF.last rfl (by kernel_rfl) (Opens.slice Try.underlying22 (by kernel_rfl) (Opens.int Try.underlying5))))))))) (fun x : S24 => (x.f0, x.f1, x.f2, x.f3, x.f4, x.f5)) (fun p => ⟨p.1, p.2.1, p.2.2.1, p.2.2.2.1, p.2.2.2.2.1, p.2.2.2.2.2⟩) (fun _ => rfl)) (fun _ h => h)
set_option maxRecDepth 100000 in
set_option maxHeartbeats 4000000 in
theorem lifted (os : Os) (started : os.Started) (H : Type) (enc : TypeId × Value → H) :
    ReturnsInHanded {} Try.checked os 7 .any (Rows.wireEndsSpec.pre6 enc Try.prog Try.f7 Rows.wireEndsRow.domain false) (Rows.wireEndsSpec.post enc Try.prog Try.f7 false true false false) := by
  refine returnsInHanded_of_change_sized (C := Try.checked) own started (by kernel_rfl) Try.func7
    (ChangeSpec.witness6 (enc := enc) (C := Try.checked) false ⟨#[], #[.agg #[.int .i64 0, .int .i64 0, .int .i64 0, .int .i64 0, .int .i64 0, .slice none 0 0], .int .i64 0, .slice none 0 0], []⟩ 8 (by kernel_rfl) (by kernel_rfl) (by kernel_rfl) (by kernel_rfl)) ?_
  intro W base args ds gs before hval0 hW hcnd hsz0 _
  have hval : ∀ (j : Nat) t v, Try.f7.params[j]? = some t → args[j]? = some v → Value.okWide Try.prog W .any base t v := hval0
  have hW' := hW
  obtain ⟨p, q, hA0, hV, rfl, hfz, hnd⟩ := hW
  have hA : DataW.TrodAll enc Try.prog W 0 (fun _ => true) true Try.f7.params.toList args.toList ds p := hA0
  rw [Try.params7] at hA hval
  obtain ⟨v0, vs0, d0, ds0, p0, q0, hargs, rfl, rfl, h0, r0⟩ := trodAll_cons hA
  obtain ⟨v1, vs1, d1, ds1, p1, q1, rfl, rfl, rfl, h1, r1⟩ := trodAll_cons r0
  obtain ⟨v2, vs2, d2, ds2, p2, q2, rfl, rfl, rfl, h2, r2⟩ := trodAll_cons r1
  obtain ⟨rfl, rfl, rfl⟩ := trodAll_nil r2
  obtain rfl : args = #[v0, v1, v2] := by cases args; simp_all
  obtain ⟨rfl, rfl⟩ := trodVars_none hV
  have k0 := h0
  have lt0 : ∀ x ∈ p0, x.block < W.heap.size := by obtain ⟨m, hm⟩ := k0; exact DataW.trod_lt m _ _ _ hm
  obtain ⟨⟨cs0⟩, rfl, _⟩ := okWide_struct Try.underlying24 (hval 0 24 v0 rfl rfl)
  obtain ⟨x0, K0, w0⟩ := (let ⟨f, hf⟩ := h0; open24 _ _ _ _ _ _ f _ _ hf)
  replace K0 : k24.K W x0 cs0 := by simpa [Value.cells] using K0
  obtain ⟨_, _, rfl, rfl, ⟨_, _, rfl, rfl, ⟨_, _, rfl, rfl, ⟨_, _, rfl, rfl, ⟨_, _, rfl, rfl, ⟨A0_5, c0_5, rfl, hc0_5, hr0_5⟩⟩⟩⟩⟩⟩ := K0
  have k1 := h1
  have lt1 : ∀ x ∈ p1, x.block < W.heap.size := by obtain ⟨m, hm⟩ := k1; exact DataW.trod_lt m _ _ _ hm
  obtain ⟨a1, rfl, _, _, w1⟩ := open_int Try.underlying3 (hval 1 3 v1 rfl rfl) h1
  have k2 := h2
  have lt2 : ∀ x ∈ p2, x.block < W.heap.size := by obtain ⟨m, hm⟩ := k2; exact DataW.trod_lt m _ _ _ hm
  obtain ⟨a2, len2, cap2, rfl⟩ := okWide_slice Try.underlying22 (hval 2 22 v2 rfl rfl)
  obtain ⟨x2, ⟨A2, c2, hcs2, hc2, hr2⟩, w2⟩ := (let ⟨f, hf⟩ := h2; (Opens.slice Try.underlying22 (by kernel_rfl) (Opens.int Try.underlying5)) _ _ _ _ _ _ f _ _ hf)
  simp only [Value.cells, List.cons.injEq, and_true, Value.slice.injEq] at hcs2
  obtain ⟨rfl, rfl, rfl⟩ := hcs2
  clear hA0 hval0 hsz0
  obtain ⟨k, hp⟩ := Pure.WireEnds x0.f0 x0.f1 x0.f2 x0.f3 x0.f4 x0.f5 a1 x2 w0.1 w0.2.1 w0.2.2.1 w0.2.2.2.1 w0.2.2.2.2.1 w0.2.2.2.2.2 w1 w2
  refine (slotmeshlaw04_WireEnds.calls (k := k) (r := true) (w := W) (hr0_5 := hr0_5) (hc0_5 := hc0_5) (hr2 := hr2) (hc2 := hc2) (h := hp)).mono fun e W' ⟨he, bel⟩ => ?_
  subst he
  exact ⟨_, rfl, _, _, _, [], _, [], hW', trodAll_mk1 (shut_bool Try.underlying4 _), (trodAll_cons_mk (Below.trod laidOut (by kernel_rfl) (of_decide_eq_true (by kernel_rfl)) k0 bel lt0) (trodAll_cons_mk (Below.trod laidOut (by kernel_rfl) (of_decide_eq_true (by kernel_rfl)) k1 bel lt1) (trodAll_cons_mk (Below.trod laidOut (by kernel_rfl) (of_decide_eq_true (by kernel_rfl)) k2 bel lt2) trodAll_mk0))), rfl, bel.frame _, fun h => by cases h⟩
theorem over : Rows.wireEndsRow.holds Try.pinned (OpenSpec.ofChange Rows.wireEndsSpec) :=
  OpenClaim.holds_of_wide 7 Try.f7 rfl rfl rfl rfl rfl rfl rfl ⟨rfl, rfl, rfl, rfl, rfl⟩ rfl rfl rfl rfl rfl (by kernel_rfl) Try.func7 (by kernel_rfl)
    (of_decide_eq_true (by kernel_rfl)) (by unfold Func.isWrapper; first | (rw [if_pos (by decide +kernel)]; kernel_rfl) | (rw [if_neg (by decide +kernel)]; exact ⟨rfl, rfl⟩))
    (fun os started H enc _ => lifted os started H enc)
theorem proved : Rows.WireEndsSaid := over
#print axioms proved
end Go.Proofs.Ytanipbjbaalomaa.wireEnds
namespace Go.Proofs.Ytanipbjbaalomaa
/-- The row, under a short name, for the claim. -/
theorem wireEnds_holds : Rows.WireEndsSaid := wireEnds.proved
end Go.Proofs.Ytanipbjbaalomaa
