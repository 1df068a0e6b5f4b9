/- The row of SeenOrigins: whatever the arguments that can be read as data, the call returns true and they read as before. No condition. -/
import Derived.Test.YtjibgfihfbdcaaaRows
import Derived.Test.YtjibgfihfbdcaaaPSeenx15
import Derived.Test.YtjibgfihfbdcaaaPureSeenOrigins
import Derived.Test.YtjibgfihfbdcaaaXOpenZ
import Derived.WalkKit
import Derived.ProofKit
import Derived.OpenShut
import Derived.ShutString
import Derived.ChangeOld
import Derived.Below
import Derived.SizedLaws
namespace Go.Proofs.Ytjibgfihfbdcaaa.seenOrigins
open Go.ChangeShapes Go.WideShapes Go.ChangeAt Go.RowKit Go.Proofs.YtjibgfihfbdcaaaW.PrintWords Go.Proofs.Ytjibgfihfbdcaaa.PSeen
open Go.ChangeMaps (open_string shut_string)
set_option linter.unusedVariables false
set_option linter.unusedSimpArgs false
theorem own : ownKnob Try.prog.godebug = none := by kernel_rfl
theorem laidOut : laidOutB Try.prog = true := by kernel_rfl
/-- What is known of each field. -/
def ok47 (x : S47) : Prop := (fun n => (Lit.int .i64 n).wf = true) x.f0 ∧ (fun n => (Lit.int .i64 n).wf = true) x.f1
theorem open47 : OpensZ Try.prog 47 k47 ok47 :=
  OpensZ.mono (OpensZ.iso (OpensZ.struct (total := 2) Try.underlying47 (by kernel_rfl) (OpensZF.cons rfl (by kernel_rfl) (OpensZ.int Try.underlying3) (OpensZF.last rfl (by kernel_rfl) (OpensZ.int Try.underlying3)))) (fun x : S47 => (x.f0, x.f1)) (fun p => ⟨p.1, p.2⟩) (fun _ => rfl)) (fun _ h => h)
/-- What is known of each field. -/
def ok45 (x : S45) : Prop := (fun n => (Lit.int .i64 n).wf = true) x.f0 ∧ (fun xs => xs.length * 16 ≤ 140737488351232 ∧ ∀ a ∈ xs, ok47 a) x.f1
theorem open45 : OpensZ Try.prog 45 k45 ok45 :=
  OpensZ.mono (OpensZ.iso (OpensZ.struct (total := 2) Try.underlying45 (by kernel_rfl) (OpensZF.cons rfl (by kernel_rfl) (OpensZ.int Try.underlying3) (OpensZF.last rfl (by kernel_rfl) (OpensZ.slice Try.underlying43 (by kernel_rfl) (by kernel_rfl) open47)))) (fun x : S45 => (x.f0, x.f1)) (fun p => ⟨p.1, p.2⟩) (fun _ => rfl)) (fun _ h => h)
set_option maxRecDepth 100000 in
set_option maxHeartbeats 4000000 in
theorem lifted (os : Os) (started : os.Started) (H : Type) (enc : TypeId × Value → H) :
    ReturnsInHanded {} Try.checked os 8 .any (Rows.seenOriginsSpec.pre6 enc Try.prog Try.f8 Rows.seenOriginsRow.domain false) (Rows.seenOriginsSpec.post enc Try.prog Try.f8 false true false false) := by
  refine returnsInHanded_of_change_sized (C := Try.checked) own started (by kernel_rfl) Try.func8
    (ChangeSpec.witness6 (enc := enc) (C := Try.checked) false ⟨#[], #[.slice none 0 0, .int .u8 0, .int .u32 0, .int .u8 0], []⟩ 8 (by kernel_rfl) (by kernel_rfl) (by kernel_rfl) (by kernel_rfl)) ?_
  intro W base args ds gs before hval0 hW hcnd hsz0 _
  have hval : ∀ (j : Nat) t v, Try.f8.params[j]? = some t → args[j]? = some v → Value.okWide Try.prog W .any base t v := hval0
  have hW' := hW
  obtain ⟨p, q, hA0, hV, rfl, hfz, hnd⟩ := hW
  have hA : DataW.TrodAll enc Try.prog W 0 (fun _ => true) true Try.f8.params.toList args.toList ds p := hA0
  have hsz := hsz0
  rw [Try.params8] at hA hval hsz
  obtain ⟨v0, vs0, d0, ds0, p0, q0, hargs, rfl, rfl, h0, r0⟩ := trodAll_cons hA
  obtain ⟨v1, vs1, d1, ds1, p1, q1, rfl, rfl, rfl, h1, r1⟩ := trodAll_cons r0
  obtain ⟨v2, vs2, d2, ds2, p2, q2, rfl, rfl, rfl, h2, r2⟩ := trodAll_cons r1
  obtain ⟨v3, vs3, d3, ds3, p3, q3, rfl, rfl, rfl, h3, r3⟩ := trodAll_cons r2
  obtain ⟨rfl, rfl, rfl⟩ := trodAll_nil r3
  obtain rfl : args = #[v0, v1, v2, v3] := by cases args; simp_all
  obtain ⟨rfl, rfl⟩ := trodVars_none hV
  have k0 := h0
  have lt0 : ∀ x ∈ p0, x.block < W.heap.size := by obtain ⟨m, hm⟩ := k0; exact DataW.trod_lt m _ _ _ hm
  obtain ⟨a0, len0, cap0, rfl⟩ := okWide_slice Try.underlying22 (hval 0 22 v0 rfl rfl)
  obtain ⟨x0, ⟨A0, c0, hcs0, hc0, hr0⟩, w0⟩ := (let ⟨f, hf⟩ := h0; (OpensZ.slice Try.underlying22 (by kernel_rfl) (by kernel_rfl) open45) _ _ _ _ _ _ f _ _ hf (light_at hsz (j := 0) (t := 22) rfl rfl))
  simp only [Value.cells, List.cons.injEq, and_true, Value.slice.injEq] at hcs0
  obtain ⟨rfl, rfl, rfl⟩ := hcs0
  have k1 := h1
  have lt1 : ∀ x ∈ p1, x.block < W.heap.size := by obtain ⟨m, hm⟩ := k1; exact DataW.trod_lt m _ _ _ hm
  obtain ⟨a1, rfl, _, _, w1⟩ := open_int Try.underlying5 (hval 1 5 v1 rfl rfl) h1
  have k2 := h2
  have lt2 : ∀ x ∈ p2, x.block < W.heap.size := by obtain ⟨m, hm⟩ := k2; exact DataW.trod_lt m _ _ _ hm
  obtain ⟨a2, rfl, _, _, w2⟩ := open_int Try.underlying40 (hval 2 40 v2 rfl rfl) h2
  have k3 := h3
  have lt3 : ∀ x ∈ p3, x.block < W.heap.size := by obtain ⟨m, hm⟩ := k3; exact DataW.trod_lt m _ _ _ hm
  obtain ⟨a3, rfl, _, _, w3⟩ := open_int Try.underlying5 (hval 3 5 v3 rfl rfl) h3
  (try clear hA0 hval0 hsz0 hsz)
  obtain ⟨k, hp⟩ := Pure.SeenOrigins x0 a1 a2 a3 w0 w1 w2 w3
  refine (slotmeshlaw26_SeenOrigins.calls (k := k) (r := true) (w := W) (hr0 := hr0) (hc0 := hc0) (h := hp)).mono fun e W' ⟨he, bel⟩ => ?_
  subst he
  exact ⟨_, rfl, _, _, _, [], _, [], hW', trodAll_mk1 (shut_bool Try.underlying4 _), (trodAll_cons_mk (Below.trod laidOut (by kernel_rfl) (of_decide_eq_true (by kernel_rfl)) k0 bel lt0) (trodAll_cons_mk (Below.trod laidOut (by kernel_rfl) (of_decide_eq_true (by kernel_rfl)) k1 bel lt1) (trodAll_cons_mk (Below.trod laidOut (by kernel_rfl) (of_decide_eq_true (by kernel_rfl)) k2 bel lt2) (trodAll_cons_mk (Below.trod laidOut (by kernel_rfl) (of_decide_eq_true (by kernel_rfl)) k3 bel lt3) trodAll_mk0)))), rfl, bel.frame _, fun h => by cases h⟩
theorem over : Rows.seenOriginsRow.holds Try.pinned (OpenSpec.ofChange Rows.seenOriginsSpec) :=
  OpenClaim.holds_of_wide 8 Try.f8 rfl rfl rfl rfl rfl rfl rfl ⟨rfl, rfl, rfl, rfl, rfl⟩ rfl rfl rfl rfl rfl (by kernel_rfl) Try.func8 (by kernel_rfl)
    (of_decide_eq_true (by kernel_rfl)) (by unfold Func.isWrapper; first | (rw [if_pos (by decide +kernel)]; kernel_rfl) | (rw [if_neg (by decide +kernel)]; exact ⟨rfl, rfl⟩))
    (fun os started H enc _ => lifted os started H enc)
theorem proved : Rows.SeenOriginsSaid := over
#print axioms proved
end Go.Proofs.Ytjibgfihfbdcaaa.seenOrigins
namespace Go.Proofs.Ytjibgfihfbdcaaa
/-- The row, under a short name, for the claim. -/
theorem seenOrigins_holds : Rows.SeenOriginsSaid := seenOrigins.proved
end Go.Proofs.Ytjibgfihfbdcaaa
