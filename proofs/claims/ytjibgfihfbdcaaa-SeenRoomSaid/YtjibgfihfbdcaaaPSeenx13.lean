-- A text of this claim, written by this session's program. -- SLIM
import Derived.Test.YtjibgfihfbdcaaaPSeenx0
import Derived.Test.YtjibgfihfbdcaaaPSeenx3
import Derived.Test.YtjibgfihfbdcaaaPSeenx6
import Derived.Test.YtjibgfihfbdcaaaPSeenx7
import Derived.Test.YtjibgfihfbdcaaaPSeenx8
import Derived.Test.YtjibgfihfbdcaaaPSeenx9
namespace Go.Proofs.Ytjibgfihfbdcaaa.PSeen
open Go.RowKit Go.Proofs.YtjibgfihfbdcaaaW.PrintWords Go.Proofs.YtjibgfihfbdcaaaW.PrintLast Go.Proofs.YtjibgfihfbdcaaaW.PrintMore
attribute [local go_sem] max2_int min2_int max_two min_two max_three min_three max_four min_four   -- for this text's walks alone
set_option linter.unusedVariables false
set_option linter.unusedSimpArgs false

/-! ### slotmeshlaw26_SeenExactly: function 4 -/
def slotmeshlaw26_SeenExactly.j0 : Nat → List (S45) → Int → Int → Int → Int → Bool → List (S45) → Bool → Option (Bool)
 | 0, _, _, _, _, _, _, _, _ => none
 | k + 1, x0, x1, x2, x3, x4, x11, x12, x81 => if x81 = true then (some false) else (if x11 = true then (if x3 = x1 then (if x4 = x2 then (some true) else ((seen_Has.f k x12 x3 x4).bind fun t317 => ((seen_Has.f k x0 x3 x4).bind fun t318 => (some (t317 == t318))))) else ((seen_Has.f k x12 x3 x4).bind fun t319 => ((seen_Has.f k x0 x3 x4).bind fun t320 => (some (t319 == t320))))) else (some false))
def slotmeshlaw26_SeenExactly.f (k : Nat) (l0 : List (S45)) (a1 : Int) (a2 : Int) (a3 : Int) (a4 : Int) : Option (Bool) := (slotmeshlaw26_head.f k).bind fun t301 => ((slotmeshref26_Few.f k l0).bind fun t302 => (if t302 = true then ((seen_Add.f k l0 a1 a2).bind fun bt303 => (if bt303.2.2 = 0 then ((seen_Add.f k bt303.1 a1 a2).bind fun bt308 => ((seen_Valid.f k bt303.1).bind fun t313 => (if t313 = true then ((seen_Has.f k l0 a1 a2).bind fun t314 => (if (bt303.2.1 == t314) = true then (slotmeshlaw26_SeenExactly.j0 k l0 a1 a2 a3 a4 t301 bt303.1 true) else ((seen_Has.f k bt303.1 a1 a2).bind fun t315 => (if t315 = true then (if bt308.2.1 = true then (slotmeshlaw26_SeenExactly.j0 k l0 a1 a2 a3 a4 t301 bt303.1 true) else (if bt308.2.2 = 0 then ((slotmeshref26_Same.f k bt303.1 bt308.1).bind fun t316 => (slotmeshlaw26_SeenExactly.j0 k l0 a1 a2 a3 a4 t301 bt303.1 (!t316))) else (slotmeshlaw26_SeenExactly.j0 k l0 a1 a2 a3 a4 t301 bt303.1 true))) else (slotmeshlaw26_SeenExactly.j0 k l0 a1 a2 a3 a4 t301 bt303.1 true))))) else (slotmeshlaw26_SeenExactly.j0 k l0 a1 a2 a3 a4 t301 bt303.1 true)))) else (if t301 = true then (if (bt303.1.length : Int) = 0 then (some (!bt303.2.1)) else (some false)) else (some false)))) else (some t301)))
theorem slotmeshlaw26_SeenExactly.mono_l : ∀ k, (∀ y0 y1 y2 y3 y4 y5 y6 y7, LeO (slotmeshlaw26_SeenExactly.j0 k y0 y1 y2 y3 y4 y5 y6 y7) (slotmeshlaw26_SeenExactly.j0 (k + 1) y0 y1 y2 y3 y4 y5 y6 y7))
 | 0 => fun _ _ _ _ _ _ _ _ r h => by simp [slotmeshlaw26_SeenExactly.j0] at h
 | k + 1 => by
  have ih0 := slotmeshlaw26_SeenExactly.mono_l k
  ·intro y0 y1 y2 y3 y4 y5 y6 y7
   unfold slotmeshlaw26_SeenExactly.j0
   repeat' first
   | (with_reducible exact ih0 _ _ _ _ _ _ _ _)
   | (with_reducible exact seen_Add.mono _ _ _ _)
   | (with_reducible exact seen_Has.mono _ _ _ _)
   | (with_reducible exact seen_Valid.mono _ _)
   | (with_reducible exact slotmeshlaw26_head.mono _)
   | (with_reducible exact slotmeshref26_Few.mono _ _)
   | (with_reducible exact slotmeshref26_Same.mono _ _ _)
   | (with_reducible exact LeO.refl _)
   | (with_reducible exact LeO.none _)
   | (with_reducible refine LeO.ite ?_ ?_)
   | (with_reducible refine LeO.bind ?_ (fun _ => ?_))
   | exact ih0 _ _ _ _ _ _ _ _
   | exact seen_Add.mono _ _ _ _
   | exact seen_Has.mono _ _ _ _
   | exact seen_Valid.mono _ _
   | exact slotmeshlaw26_head.mono _
   | exact slotmeshref26_Few.mono _ _
   | exact slotmeshref26_Same.mono _ _ _
   | exact LeO.none _
   | refine LeO.ite ?_ ?_
   | refine LeO.bind ?_ (fun _ => ?_)
theorem slotmeshlaw26_SeenExactly.mono : ∀ a0 a1 a2 a3 a4 k, LeO (slotmeshlaw26_SeenExactly.f k a0 a1 a2 a3 a4) (slotmeshlaw26_SeenExactly.f (k + 1) a0 a1 a2 a3 a4) := by
 intro a0 a1 a2 a3 a4 k
 have ih0 := slotmeshlaw26_SeenExactly.mono_l k
 unfold slotmeshlaw26_SeenExactly.f
 repeat' first
   | (with_reducible exact ih0 _ _ _ _ _ _ _ _)
   | (with_reducible exact seen_Add.mono _ _ _ _)
   | (with_reducible exact seen_Has.mono _ _ _ _)
   | (with_reducible exact seen_Valid.mono _ _)
   | (with_reducible exact slotmeshlaw26_head.mono _)
   | (with_reducible exact slotmeshref26_Few.mono _ _)
   | (with_reducible exact slotmeshref26_Same.mono _ _ _)
   | (with_reducible exact LeO.refl _)
   | (with_reducible exact LeO.none _)
   | (with_reducible refine LeO.ite ?_ ?_)
   | (with_reducible refine LeO.bind ?_ (fun _ => ?_))
   | exact ih0 _ _ _ _ _ _ _ _
   | exact seen_Add.mono _ _ _ _
   | exact seen_Has.mono _ _ _ _
   | exact seen_Valid.mono _ _
   | exact slotmeshlaw26_head.mono _
   | exact slotmeshref26_Few.mono _ _
   | exact slotmeshref26_Same.mono _ _ _
   | exact LeO.none _
   | refine LeO.ite ?_ ?_
   | refine LeO.bind ?_ (fun _ => ?_)
set_option maxHeartbeats 8000000 in
set_option maxRecDepth 100000 in
theorem slotmeshlaw26_SeenExactly.calls (k : Nat) (A0 : Option Addr) (c0 : Nat) (l0 : List (S45)) (a1 : Int) (a2 : Int) (a3 : Int) (a4 : Int) (r : Bool) (w : World) (hr0 : Kd.C k45 w A0 l0.length l0) (hc0 : l0.length ≤ c0) (h : slotmeshlaw26_SeenExactly.f k l0 a1 a2 a3 a4 = some r) :
  Calls Try.prog 4 #[.slice A0 l0.length c0, .int .i64 a1, .int .i64 a2, .int .i64 a3, .int .i64 a4] w fun e w' => e = .returned (.bool r) ∧ Below w.heap.size w w' := by
 have HR0 := Aside0.mk hr0
 have HC0 := Aside0.mk hc0
 clear hr0 hc0
 have HB := Aside0.mk (Below.refl w.heap.size w)
 have H : ((slotmeshlaw26_head.f k).bind fun t301 => ((slotmeshref26_Few.f k l0).bind fun t302 => (if t302 = true then ((seen_Add.f k l0 a1 a2).bind fun bt303 => (if bt303.2.2 = 0 then ((seen_Add.f k bt303.1 a1 a2).bind fun bt308 => ((seen_Valid.f k bt303.1).bind fun t313 => (if t313 = true then ((seen_Has.f k l0 a1 a2).bind fun t314 => (if (bt303.2.1 == t314) = true then (slotmeshlaw26_SeenExactly.j0 k l0 a1 a2 a3 a4 t301 bt303.1 true) else ((seen_Has.f k bt303.1 a1 a2).bind fun t315 => (if t315 = true then (if bt308.2.1 = true then (slotmeshlaw26_SeenExactly.j0 k l0 a1 a2 a3 a4 t301 bt303.1 true) else (if bt308.2.2 = 0 then ((slotmeshref26_Same.f k bt303.1 bt308.1).bind fun t316 => (slotmeshlaw26_SeenExactly.j0 k l0 a1 a2 a3 a4 t301 bt303.1 (!t316))) else (slotmeshlaw26_SeenExactly.j0 k l0 a1 a2 a3 a4 t301 bt303.1 true))) else (slotmeshlaw26_SeenExactly.j0 k l0 a1 a2 a3 a4 t301 bt303.1 true))))) else (slotmeshlaw26_SeenExactly.j0 k l0 a1 a2 a3 a4 t301 bt303.1 true)))) else (if t301 = true then (if (bt303.1.length : Int) = 0 then (some (!bt303.2.1)) else (some false)) else (some false)))) else (some t301)))) = some r := h
 clear h
 replace H := Option.bind_eq_some_iff.mp H
 obtain ⟨t301, A60, H⟩ := H
 replace H : ((slotmeshref26_Few.f k l0).bind fun t302 => (if t302 = true then ((seen_Add.f k l0 a1 a2).bind fun bt303 => (if bt303.2.2 = 0 then ((seen_Add.f k bt303.1 a1 a2).bind fun bt308 => ((seen_Valid.f k bt303.1).bind fun t313 => (if t313 = true then ((seen_Has.f k l0 a1 a2).bind fun t314 => (if (bt303.2.1 == t314) = true then (slotmeshlaw26_SeenExactly.j0 k l0 a1 a2 a3 a4 t301 bt303.1 true) else ((seen_Has.f k bt303.1 a1 a2).bind fun t315 => (if t315 = true then (if bt308.2.1 = true then (slotmeshlaw26_SeenExactly.j0 k l0 a1 a2 a3 a4 t301 bt303.1 true) else (if bt308.2.2 = 0 then ((slotmeshref26_Same.f k bt303.1 bt308.1).bind fun t316 => (slotmeshlaw26_SeenExactly.j0 k l0 a1 a2 a3 a4 t301 bt303.1 (!t316))) else (slotmeshlaw26_SeenExactly.j0 k l0 a1 a2 a3 a4 t301 bt303.1 true))) else (slotmeshlaw26_SeenExactly.j0 k l0 a1 a2 a3 a4 t301 bt303.1 true))))) else (slotmeshlaw26_SeenExactly.j0 k l0 a1 a2 a3 a4 t301 bt303.1 true)))) else (if t301 = true then (if (bt303.1.length : Int) = 0 then (some (!bt303.2.1)) else (some false)) else (some false)))) else (some t301))) = some r := H
 have A6 := Aside0.mk A60
 clear A60
 replace H := Option.bind_eq_some_iff.mp H
 obtain ⟨t302, A70, H⟩ := H
 replace H : (if t302 = true then ((seen_Add.f k l0 a1 a2).bind fun bt303 => (if bt303.2.2 = 0 then ((seen_Add.f k bt303.1 a1 a2).bind fun bt308 => ((seen_Valid.f k bt303.1).bind fun t313 => (if t313 = true then ((seen_Has.f k l0 a1 a2).bind fun t314 => (if (bt303.2.1 == t314) = true then (slotmeshlaw26_SeenExactly.j0 k l0 a1 a2 a3 a4 t301 bt303.1 true) else ((seen_Has.f k bt303.1 a1 a2).bind fun t315 => (if t315 = true then (if bt308.2.1 = true then (slotmeshlaw26_SeenExactly.j0 k l0 a1 a2 a3 a4 t301 bt303.1 true) else (if bt308.2.2 = 0 then ((slotmeshref26_Same.f k bt303.1 bt308.1).bind fun t316 => (slotmeshlaw26_SeenExactly.j0 k l0 a1 a2 a3 a4 t301 bt303.1 (!t316))) else (slotmeshlaw26_SeenExactly.j0 k l0 a1 a2 a3 a4 t301 bt303.1 true))) else (slotmeshlaw26_SeenExactly.j0 k l0 a1 a2 a3 a4 t301 bt303.1 true))))) else (slotmeshlaw26_SeenExactly.j0 k l0 a1 a2 a3 a4 t301 bt303.1 true)))) else (if t301 = true then (if (bt303.1.length : Int) = 0 then (some (!bt303.2.1)) else (some false)) else (some false)))) else (some t301)) = some r := H
 have A7 := Aside0.mk A70
 clear A70
 by_cases c8 : t302 = true
 ·subst c8
  have H1 : ((seen_Add.f k l0 a1 a2).bind fun bt303 => (if bt303.2.2 = 0 then ((seen_Add.f k bt303.1 a1 a2).bind fun bt308 => ((seen_Valid.f k bt303.1).bind fun t313 => (if t313 = true then ((seen_Has.f k l0 a1 a2).bind fun t314 => (if (bt303.2.1 == t314) = true then (slotmeshlaw26_SeenExactly.j0 k l0 a1 a2 a3 a4 t301 bt303.1 true) else ((seen_Has.f k bt303.1 a1 a2).bind fun t315 => (if t315 = true then (if bt308.2.1 = true then (slotmeshlaw26_SeenExactly.j0 k l0 a1 a2 a3 a4 t301 bt303.1 true) else (if bt308.2.2 = 0 then ((slotmeshref26_Same.f k bt303.1 bt308.1).bind fun t316 => (slotmeshlaw26_SeenExactly.j0 k l0 a1 a2 a3 a4 t301 bt303.1 (!t316))) else (slotmeshlaw26_SeenExactly.j0 k l0 a1 a2 a3 a4 t301 bt303.1 true))) else (slotmeshlaw26_SeenExactly.j0 k l0 a1 a2 a3 a4 t301 bt303.1 true))))) else (slotmeshlaw26_SeenExactly.j0 k l0 a1 a2 a3 a4 t301 bt303.1 true)))) else (if t301 = true then (if (bt303.1.length : Int) = 0 then (some (!bt303.2.1)) else (some false)) else (some false)))) = some r := by rw [if_pos rfl] at H; exact H
  clear H
  have H := H1
  clear H1
  replace H := Option.bind_eq_some_iff.mp H
  obtain ⟨⟨t303, t306, t307⟩, A90, H⟩ := H
  replace H : (if t307 = 0 then ((seen_Add.f k t303 a1 a2).bind fun bt308 => ((seen_Valid.f k t303).bind fun t313 => (if t313 = true then ((seen_Has.f k l0 a1 a2).bind fun t314 => (if (t306 == t314) = true then (slotmeshlaw26_SeenExactly.j0 k l0 a1 a2 a3 a4 t301 t303 true) else ((seen_Has.f k t303 a1 a2).bind fun t315 => (if t315 = true then (if bt308.2.1 = true then (slotmeshlaw26_SeenExactly.j0 k l0 a1 a2 a3 a4 t301 t303 true) else (if bt308.2.2 = 0 then ((slotmeshref26_Same.f k t303 bt308.1).bind fun t316 => (slotmeshlaw26_SeenExactly.j0 k l0 a1 a2 a3 a4 t301 t303 (!t316))) else (slotmeshlaw26_SeenExactly.j0 k l0 a1 a2 a3 a4 t301 t303 true))) else (slotmeshlaw26_SeenExactly.j0 k l0 a1 a2 a3 a4 t301 t303 true))))) else (slotmeshlaw26_SeenExactly.j0 k l0 a1 a2 a3 a4 t301 t303 true)))) else (if t301 = true then (if (t303.length : Int) = 0 then (some (!t306)) else (some false)) else (some false))) = some r := H
  have A9 := Aside0.mk A90
  clear A90
  by_cases c10 : t307 = 0
  ·rw [if_pos c10] at H
   have c10b0 : (t307 == 0) = true := beq_iff_eq.mpr c10
   have c10b1 : (t307 != 0) = false := bne_eq_false_iff_eq.mpr c10
   clear c10
   replace H := Option.bind_eq_some_iff.mp H
   obtain ⟨⟨t308, t311, t312⟩, A110, H⟩ := H
   replace H : ((seen_Valid.f k t303).bind fun t313 => (if t313 = true then ((seen_Has.f k l0 a1 a2).bind fun t314 => (if (t306 == t314) = true then (slotmeshlaw26_SeenExactly.j0 k l0 a1 a2 a3 a4 t301 t303 true) else ((seen_Has.f k t303 a1 a2).bind fun t315 => (if t315 = true then (if t311 = true then (slotmeshlaw26_SeenExactly.j0 k l0 a1 a2 a3 a4 t301 t303 true) else (if t312 = 0 then ((slotmeshref26_Same.f k t303 t308).bind fun t316 => (slotmeshlaw26_SeenExactly.j0 k l0 a1 a2 a3 a4 t301 t303 (!t316))) else (slotmeshlaw26_SeenExactly.j0 k l0 a1 a2 a3 a4 t301 t303 true))) else (slotmeshlaw26_SeenExactly.j0 k l0 a1 a2 a3 a4 t301 t303 true))))) else (slotmeshlaw26_SeenExactly.j0 k l0 a1 a2 a3 a4 t301 t303 true))) = some r := H
   have A11 := Aside0.mk A110
   clear A110
   have HC12 := Aside0.mk H
   clear H
   go_enter Try.func4, Try.ntmps4
   go_upto_region 8 with (first | ((with_reducible refine gate_callee (f := 9) rfl ?_); refine goesL_ (some 18) rfl rfl Try.func9 (by kernel_rfl) rfl #[] rfl (by (try simp only [List.map_toArray, List.map_cons, List.map_nil]); first | done | rfl | (simp only [List.length_drop, List.length_take]; rfl)) ?_; (with_reducible refine (slotmeshlaw26_head.calls k  t301 _ A6.out).mono ?_); rintro e w13 ⟨rfl, hb⟩; refine ⟨_, rfl, ?_⟩; have n0_ := Aside0.mk (below_step (by repeat (first | (with_reducible first | exact HB.out | apply below_alloc | apply pw_below_drewN | apply below_drew1) | exact HB.out)) hb); clear HB; have HB := n0_; clear n0_; (try clear hb); (try clear hb2); (try clear hk); (try clear hi)) | ((with_reducible refine gate_callee (f := 10) rfl ?_); refine goesL_ (some 20) rfl rfl Try.func10 (by kernel_rfl) rfl #[.slice A0 l0.length c0] rfl (by (try simp only [List.map_toArray, List.map_cons, List.map_nil]); first | done | rfl | (simp only [List.length_drop, List.length_take]; rfl)) ?_; (with_reducible refine (slotmeshref26_Few.calls k _ _ l0 true _ ?side1 ?side2 A7.out).mono ?_); (case side1 => repeat (first | exact (Kd.C_below HR0.out HB.out) | (with_reducible refine Kd.C_alloc ?_ _) | (with_reducible refine Kd.C_drewN ?_ _) | (with_reducible refine Kd.C_drew ?_))); (case side2 => exact HC0.out); rintro e w' ⟨rfl, ⟨nd, rfl⟩⟩; refine ⟨_, rfl, ?_⟩) | ((with_reducible refine gate_callee (f := 11) rfl ?_); refine goesL_ (some 27) rfl rfl Try.func11 (by kernel_rfl) rfl #[.slice A0 l0.length c0, .int .i64 a1, .int .i64 a2] rfl (by (try simp only [List.map_toArray, List.map_cons, List.map_nil]); first | done | rfl | (simp only [List.length_drop, List.length_take]; rfl)) ?_; (with_reducible refine (seen_Add.calls k (fun k_ => k_ < w.heap.size) _ _ l0 a1 a2 t303 t306 t307 _ ?side1 A9.out).mono ?_); (case side1 => exact Kd.V_mk HC0.out (Kd.F_below (Kd.C_F k45_heap HR0.out) (by repeat (first | (with_reducible first | exact HB.out | apply below_alloc | apply pw_below_drewN | apply below_drew1) | exact HB.out)))); rintro e w14 ⟨v304, rfl, ho0, hb⟩; refine ⟨_, rfl, ?_⟩; have n0_ := Aside0.mk (Kd.V_lower (Kd.V_mono (ok' := fun k_ => True) ho0 (fun k_ hk_ => trivial)) (below_size (by repeat (first | (with_reducible first | exact HB.out | apply below_alloc | apply pw_below_drewN | apply below_drew1) | exact HB.out)))); have n1_ := Aside0.mk (below_step (by repeat (first | (with_reducible first | exact HB.out | apply below_alloc | apply pw_below_drewN | apply below_drew1) | exact HB.out)) hb); clear HB; have HO305 := n0_; have HB := n1_; clear n0_ n1_; (try clear hb); (try clear hb2); (try clear hk); (try clear hi); (try clear ho0); obtain ⟨Ao15, co15, eo15⟩ := Kd.V_slice HO305.out; subst eo15) | ((with_reducible refine gate_callee (f := 11) rfl ?_); refine goesL_ (some 47) rfl rfl Try.func11 (by kernel_rfl) rfl #[.slice Ao15 t303.length co15, .int .i64 a1, .int .i64 a2] rfl (by (try simp only [List.map_toArray, List.map_cons, List.map_nil]); first | done | rfl | (simp only [List.length_drop, List.length_take]; rfl)) ?_; (with_reducible refine (seen_Add.calls k (fun k_ => True) _ _ t303 a1 a2 t308 t311 t312 _ ?side1 A11.out).mono ?_); (case side1 => exact HO305.out); rintro e w16 ⟨v309, rfl, ho0, hb⟩; refine ⟨_, rfl, ?_⟩; have n0_ := Aside0.mk (Kd.V_below (by (with_reducible repeat (first | apply Kd.V_alloc | apply Kd.V_drewN | apply Kd.V_drew)); exact HO305.out) hb); have n1_ := Aside0.mk (Kd.V_lower (Kd.V_mono (ok' := fun k_ => True) ho0 (fun k_ hk_ => trivial)) (below_size (by repeat (first | (with_reducible first | exact HB.out | apply below_alloc | apply pw_below_drewN | apply below_drew1) | exact HB.out)))); have n2_ := Aside0.mk (below_step (by repeat (first | (with_reducible first | exact HB.out | apply below_alloc | apply pw_below_drewN | apply below_drew1) | exact HB.out)) hb); clear HO305; clear HB; have HO305 := n0_; have HO310 := n1_; have HB := n2_; clear n0_ n1_ n2_; (try clear hb); (try clear hb2); (try clear hk); (try clear hi); (try clear ho0)))
   (try simp only [Act.put, List.setIfInBounds_toArray, List.set_cons_zero, List.set_cons_succ])
   go_cut [81] (fun v81 wc => ∃ (kq : Nat) (x81_11 : Bool), v81 = .bool x81_11 ∧ Aside0 (slotmeshlaw26_SeenExactly.j0 kq l0 a1 a2 a3 a4 t301 t303 x81_11 = some r) ∧ Aside0 (kq ≤ k) ∧ Aside0 (Kd.V k45 45 wc w.heap.size (fun _ => True) (.slice Ao15 t303.length co15) t303) ∧ Aside0 (Below w.heap.size w wc))
   case first =>
    have H := HC12.out
    clear HC12
    replace H := Option.bind_eq_some_iff.mp H
    obtain ⟨t313, A170, H⟩ := H
    replace H : (if t313 = true then ((seen_Has.f k l0 a1 a2).bind fun t314 => (if (t306 == t314) = true then (slotmeshlaw26_SeenExactly.j0 k l0 a1 a2 a3 a4 t301 t303 true) else ((seen_Has.f k t303 a1 a2).bind fun t315 => (if t315 = true then (if t311 = true then (slotmeshlaw26_SeenExactly.j0 k l0 a1 a2 a3 a4 t301 t303 true) else (if t312 = 0 then ((slotmeshref26_Same.f k t303 t308).bind fun t316 => (slotmeshlaw26_SeenExactly.j0 k l0 a1 a2 a3 a4 t301 t303 (!t316))) else (slotmeshlaw26_SeenExactly.j0 k l0 a1 a2 a3 a4 t301 t303 true))) else (slotmeshlaw26_SeenExactly.j0 k l0 a1 a2 a3 a4 t301 t303 true))))) else (slotmeshlaw26_SeenExactly.j0 k l0 a1 a2 a3 a4 t301 t303 true)) = some r := H
    have A17 := Aside0.mk A170
    clear A170
    by_cases c18 : t313 = true
    ·subst c18
     have H1 : ((seen_Has.f k l0 a1 a2).bind fun t314 => (if (t306 == t314) = true then (slotmeshlaw26_SeenExactly.j0 k l0 a1 a2 a3 a4 t301 t303 true) else ((seen_Has.f k t303 a1 a2).bind fun t315 => (if t315 = true then (if t311 = true then (slotmeshlaw26_SeenExactly.j0 k l0 a1 a2 a3 a4 t301 t303 true) else (if t312 = 0 then ((slotmeshref26_Same.f k t303 t308).bind fun t316 => (slotmeshlaw26_SeenExactly.j0 k l0 a1 a2 a3 a4 t301 t303 (!t316))) else (slotmeshlaw26_SeenExactly.j0 k l0 a1 a2 a3 a4 t301 t303 true))) else (slotmeshlaw26_SeenExactly.j0 k l0 a1 a2 a3 a4 t301 t303 true))))) = some r := by rw [if_pos rfl] at H; exact H
     clear H
     have H := H1
     clear H1
     replace H := Option.bind_eq_some_iff.mp H
     obtain ⟨t314, A190, H⟩ := H
     replace H : (if (t306 == t314) = true then (slotmeshlaw26_SeenExactly.j0 k l0 a1 a2 a3 a4 t301 t303 true) else ((seen_Has.f k t303 a1 a2).bind fun t315 => (if t315 = true then (if t311 = true then (slotmeshlaw26_SeenExactly.j0 k l0 a1 a2 a3 a4 t301 t303 true) else (if t312 = 0 then ((slotmeshref26_Same.f k t303 t308).bind fun t316 => (slotmeshlaw26_SeenExactly.j0 k l0 a1 a2 a3 a4 t301 t303 (!t316))) else (slotmeshlaw26_SeenExactly.j0 k l0 a1 a2 a3 a4 t301 t303 true))) else (slotmeshlaw26_SeenExactly.j0 k l0 a1 a2 a3 a4 t301 t303 true)))) = some r := H
     have A19 := Aside0.mk A190
     clear A190
     by_cases c20 : (t306 == t314) = true
     ·rw [if_pos c20] at H
      have c20b0 : (t306 == t314) = true := c20
      (try (have c20b1 : decide (t306 = t314) = true := by simpa using c20))
      (try (have c20b2 : (t306 == t314) = true := by simpa using c20))
      clear c20
      (first | rw [c20b0] | (simp only [i64_w, i32_w]; rw [c20b0]) | skip)
      have H' := Aside0.mk H
      clear H
      go_wp2_with (first | ((with_reducible refine gate_callee (f := 13) rfl ?_); refine goesL_ (some 52) rfl rfl Try.func13 (by kernel_rfl) rfl #[.slice Ao15 t303.length co15] rfl (by (try simp only [List.map_toArray, List.map_cons, List.map_nil]); first | done | rfl | (simp only [List.length_drop, List.length_take]; rfl)) ?_; (with_reducible refine (seen_Valid.calls k _ _ t303 true _ ?side1 ?side2 A17.out).mono ?_); (case side1 => repeat (first | exact (Kd.V_reads' HO305.out).2.2 | (with_reducible refine Kd.C_alloc ?_ _) | (with_reducible refine Kd.C_drewN ?_ _) | (with_reducible refine Kd.C_drew ?_))); (case side2 => exact (Kd.V_reads' HO305.out).2.1); rintro e w21 ⟨rfl, hb⟩; refine ⟨_, rfl, ?_⟩; have n0_ := Aside0.mk (Kd.V_below (by (with_reducible repeat (first | apply Kd.V_alloc | apply Kd.V_drewN | apply Kd.V_drew)); exact HO305.out) hb); have n1_ := Aside0.mk (Kd.V_below (by (with_reducible repeat (first | apply Kd.V_alloc | apply Kd.V_drewN | apply Kd.V_drew)); exact HO310.out) hb); have n2_ := Aside0.mk (below_step (by repeat (first | (with_reducible first | exact HB.out | apply below_alloc | apply pw_below_drewN | apply below_drew1) | exact HB.out)) hb); clear HO305; clear HO310; clear HB; have HO305 := n0_; have HO310 := n1_; have HB := n2_; clear n0_ n1_ n2_; (try clear hb); (try clear hb2); (try clear hk); (try clear hi)) | (go_at_call 15; (with_reducible refine (seen_Has.calls k _ _ l0 a1 a2 t314 _ ?side1 ?side2 A19.out).mono ?_); (case side1 => repeat (first | exact (Kd.C_below HR0.out HB.out) | (with_reducible refine Kd.C_alloc ?_ _) | (with_reducible refine Kd.C_drewN ?_ _) | (with_reducible refine Kd.C_drew ?_))); (case side2 => exact HC0.out); rintro e w22 ⟨rfl, hb⟩; have n0_ := Aside0.mk (Kd.V_below (by (with_reducible repeat (first | apply Kd.V_alloc | apply Kd.V_drewN | apply Kd.V_drew)); exact HO305.out) hb); have n1_ := Aside0.mk (Kd.V_below (by (with_reducible repeat (first | apply Kd.V_alloc | apply Kd.V_drewN | apply Kd.V_drew)); exact HO310.out) hb); have n2_ := Aside0.mk (below_step (by repeat (first | (with_reducible first | exact HB.out | apply below_alloc | apply pw_below_drewN | apply below_drew1) | exact HB.out)) hb); clear HO305; clear HO310; clear HB; have HO305 := n0_; have HO310 := n1_; have HB := n2_; clear n0_ n1_ n2_; (try clear hb); (try clear hb2); (try clear hk); (try clear hi)))
      go_meet
      case rel => exact ⟨_, (true), (by first | rfl | (simp; done) | (simp [*]; done)), H', ⟨by first | omega | exact Nat.le_refl _⟩, ⟨by (with_reducible repeat (first | apply Kd.V_alloc | apply Kd.V_drewN | apply Kd.V_drew)); exact HO305.out⟩, ⟨by repeat (first | (with_reducible first | exact HB.out | apply below_alloc | apply pw_below_drewN | apply below_drew1) | exact HB.out)⟩⟩
     ·rw [if_neg c20] at H
      have c20b0 : (t306 == t314) = false := by simpa using c20
      (try (have c20b1 : decide (t306 = t314) = false := by simpa using c20))
      (try (have c20b2 : (t306 == t314) = false := by simpa using c20))
      (try (have c20b3 : ¬ (t306 = t314) := by simpa using c20))
      clear c20
      (first | rw [c20b0] | (simp only [i64_w, i32_w]; rw [c20b0]) | skip)
      replace H := Option.bind_eq_some_iff.mp H
      obtain ⟨t315, A230, H⟩ := H
      replace H : (if t315 = true then (if t311 = true then (slotmeshlaw26_SeenExactly.j0 k l0 a1 a2 a3 a4 t301 t303 true) else (if t312 = 0 then ((slotmeshref26_Same.f k t303 t308).bind fun t316 => (slotmeshlaw26_SeenExactly.j0 k l0 a1 a2 a3 a4 t301 t303 (!t316))) else (slotmeshlaw26_SeenExactly.j0 k l0 a1 a2 a3 a4 t301 t303 true))) else (slotmeshlaw26_SeenExactly.j0 k l0 a1 a2 a3 a4 t301 t303 true)) = some r := H
      have A23 := Aside0.mk A230
      clear A230
      by_cases c24 : t315 = true
      ·subst c24
       have H1 : (if t311 = true then (slotmeshlaw26_SeenExactly.j0 k l0 a1 a2 a3 a4 t301 t303 true) else (if t312 = 0 then ((slotmeshref26_Same.f k t303 t308).bind fun t316 => (slotmeshlaw26_SeenExactly.j0 k l0 a1 a2 a3 a4 t301 t303 (!t316))) else (slotmeshlaw26_SeenExactly.j0 k l0 a1 a2 a3 a4 t301 t303 true))) = some r := by rw [if_pos rfl] at H; exact H
       clear H
       have H := H1
       clear H1
       by_cases c25 : t311 = true
       ·subst c25
        have H1 : (slotmeshlaw26_SeenExactly.j0 k l0 a1 a2 a3 a4 t301 t303 true) = some r := by rw [if_pos rfl] at H; exact H
        clear H
        have H := H1
        clear H1
        have H' := Aside0.mk H
        clear H
        go_wp2_with (first | ((with_reducible refine gate_callee (f := 13) rfl ?_); refine goesL_ (some 52) rfl rfl Try.func13 (by kernel_rfl) rfl #[.slice Ao15 t303.length co15] rfl (by (try simp only [List.map_toArray, List.map_cons, List.map_nil]); first | done | rfl | (simp only [List.length_drop, List.length_take]; rfl)) ?_; (with_reducible refine (seen_Valid.calls k _ _ t303 true _ ?side1 ?side2 A17.out).mono ?_); (case side1 => repeat (first | exact (Kd.V_reads' HO305.out).2.2 | (with_reducible refine Kd.C_alloc ?_ _) | (with_reducible refine Kd.C_drewN ?_ _) | (with_reducible refine Kd.C_drew ?_))); (case side2 => exact (Kd.V_reads' HO305.out).2.1); rintro e w26 ⟨rfl, hb⟩; refine ⟨_, rfl, ?_⟩; have n0_ := Aside0.mk (Kd.V_below (by (with_reducible repeat (first | apply Kd.V_alloc | apply Kd.V_drewN | apply Kd.V_drew)); exact HO305.out) hb); have n1_ := Aside0.mk (Kd.V_below (by (with_reducible repeat (first | apply Kd.V_alloc | apply Kd.V_drewN | apply Kd.V_drew)); exact HO310.out) hb); have n2_ := Aside0.mk (below_step (by repeat (first | (with_reducible first | exact HB.out | apply below_alloc | apply pw_below_drewN | apply below_drew1) | exact HB.out)) hb); clear HO305; clear HO310; clear HB; have HO305 := n0_; have HO310 := n1_; have HB := n2_; clear n0_ n1_ n2_; (try clear hb); (try clear hb2); (try clear hk); (try clear hi)) | (go_at_call 15; (with_reducible refine (seen_Has.calls k _ _ l0 a1 a2 t314 _ ?side1 ?side2 A19.out).mono ?_); (case side1 => repeat (first | exact (Kd.C_below HR0.out HB.out) | (with_reducible refine Kd.C_alloc ?_ _) | (with_reducible refine Kd.C_drewN ?_ _) | (with_reducible refine Kd.C_drew ?_))); (case side2 => exact HC0.out); rintro e w27 ⟨rfl, hb⟩; have n0_ := Aside0.mk (Kd.V_below (by (with_reducible repeat (first | apply Kd.V_alloc | apply Kd.V_drewN | apply Kd.V_drew)); exact HO305.out) hb); have n1_ := Aside0.mk (Kd.V_below (by (with_reducible repeat (first | apply Kd.V_alloc | apply Kd.V_drewN | apply Kd.V_drew)); exact HO310.out) hb); have n2_ := Aside0.mk (below_step (by repeat (first | (with_reducible first | exact HB.out | apply below_alloc | apply pw_below_drewN | apply below_drew1) | exact HB.out)) hb); clear HO305; clear HO310; clear HB; have HO305 := n0_; have HO310 := n1_; have HB := n2_; clear n0_ n1_ n2_; (try clear hb); (try clear hb2); (try clear hk); (try clear hi)) | (go_at_call 15; (with_reducible refine (seen_Has.calls k _ _ t303 a1 a2 true _ ?side1 ?side2 A23.out).mono ?_); (case side1 => repeat (first | exact (Kd.V_reads' HO305.out).2.2 | (with_reducible refine Kd.C_alloc ?_ _) | (with_reducible refine Kd.C_drewN ?_ _) | (with_reducible refine Kd.C_drew ?_))); (case side2 => exact (Kd.V_reads' HO305.out).2.1); rintro e w28 ⟨rfl, hb⟩; have n0_ := Aside0.mk (Kd.V_below (by (with_reducible repeat (first | apply Kd.V_alloc | apply Kd.V_drewN | apply Kd.V_drew)); exact HO305.out) hb); have n1_ := Aside0.mk (Kd.V_below (by (with_reducible repeat (first | apply Kd.V_alloc | apply Kd.V_drewN | apply Kd.V_drew)); exact HO310.out) hb); have n2_ := Aside0.mk (below_step (by repeat (first | (with_reducible first | exact HB.out | apply below_alloc | apply pw_below_drewN | apply below_drew1) | exact HB.out)) hb); clear HO305; clear HO310; clear HB; have HO305 := n0_; have HO310 := n1_; have HB := n2_; clear n0_ n1_ n2_; (try clear hb); (try clear hb2); (try clear hk); (try clear hi)))
        go_meet
        case rel => exact ⟨_, (true), (by first | rfl | (simp; done) | (simp [*]; done)), H', ⟨by first | omega | exact Nat.le_refl _⟩, ⟨by (with_reducible repeat (first | apply Kd.V_alloc | apply Kd.V_drewN | apply Kd.V_drew)); exact HO305.out⟩, ⟨by repeat (first | (with_reducible first | exact HB.out | apply below_alloc | apply pw_below_drewN | apply below_drew1) | exact HB.out)⟩⟩
       ·replace c25 := Bool.eq_false_iff.mpr c25
        subst c25
        have H1 : (if t312 = 0 then ((slotmeshref26_Same.f k t303 t308).bind fun t316 => (slotmeshlaw26_SeenExactly.j0 k l0 a1 a2 a3 a4 t301 t303 (!t316))) else (slotmeshlaw26_SeenExactly.j0 k l0 a1 a2 a3 a4 t301 t303 true)) = some r := by rw [if_neg (show ¬ (false = true) by decide)] at H; exact H
        clear H
        have H := H1
        clear H1
        by_cases c29 : t312 = 0
        ·rw [if_pos c29] at H
         have c29b0 : (t312 == 0) = true := beq_iff_eq.mpr c29
         have c29b1 : (t312 != 0) = false := bne_eq_false_iff_eq.mpr c29
         clear c29
         replace H := Option.bind_eq_some_iff.mp H
         obtain ⟨t316, A300, H⟩ := H
         replace H : (slotmeshlaw26_SeenExactly.j0 k l0 a1 a2 a3 a4 t301 t303 (!t316)) = some r := H
         have A30 := Aside0.mk A300
         clear A300
         have H' := Aside0.mk H
         clear H
         go_wp2_with (first | ((with_reducible refine gate_callee (f := 13) rfl ?_); refine goesL_ (some 52) rfl rfl Try.func13 (by kernel_rfl) rfl #[.slice Ao15 t303.length co15] rfl (by (try simp only [List.map_toArray, List.map_cons, List.map_nil]); first | done | rfl | (simp only [List.length_drop, List.length_take]; rfl)) ?_; (with_reducible refine (seen_Valid.calls k _ _ t303 true _ ?side1 ?side2 A17.out).mono ?_); (case side1 => repeat (first | exact (Kd.V_reads' HO305.out).2.2 | (with_reducible refine Kd.C_alloc ?_ _) | (with_reducible refine Kd.C_drewN ?_ _) | (with_reducible refine Kd.C_drew ?_))); (case side2 => exact (Kd.V_reads' HO305.out).2.1); rintro e w31 ⟨rfl, hb⟩; refine ⟨_, rfl, ?_⟩; have n0_ := Aside0.mk (Kd.V_below (by (with_reducible repeat (first | apply Kd.V_alloc | apply Kd.V_drewN | apply Kd.V_drew)); exact HO305.out) hb); have n1_ := Aside0.mk (Kd.V_below (by (with_reducible repeat (first | apply Kd.V_alloc | apply Kd.V_drewN | apply Kd.V_drew)); exact HO310.out) hb); have n2_ := Aside0.mk (below_step (by repeat (first | (with_reducible first | exact HB.out | apply below_alloc | apply pw_below_drewN | apply below_drew1) | exact HB.out)) hb); clear HO305; clear HO310; clear HB; have HO305 := n0_; have HO310 := n1_; have HB := n2_; clear n0_ n1_ n2_; (try clear hb); (try clear hb2); (try clear hk); (try clear hi)) | (go_at_call 15; (with_reducible refine (seen_Has.calls k _ _ l0 a1 a2 t314 _ ?side1 ?side2 A19.out).mono ?_); (case side1 => repeat (first | exact (Kd.C_below HR0.out HB.out) | (with_reducible refine Kd.C_alloc ?_ _) | (with_reducible refine Kd.C_drewN ?_ _) | (with_reducible refine Kd.C_drew ?_))); (case side2 => exact HC0.out); rintro e w32 ⟨rfl, hb⟩; have n0_ := Aside0.mk (Kd.V_below (by (with_reducible repeat (first | apply Kd.V_alloc | apply Kd.V_drewN | apply Kd.V_drew)); exact HO305.out) hb); have n1_ := Aside0.mk (Kd.V_below (by (with_reducible repeat (first | apply Kd.V_alloc | apply Kd.V_drewN | apply Kd.V_drew)); exact HO310.out) hb); have n2_ := Aside0.mk (below_step (by repeat (first | (with_reducible first | exact HB.out | apply below_alloc | apply pw_below_drewN | apply below_drew1) | exact HB.out)) hb); clear HO305; clear HO310; clear HB; have HO305 := n0_; have HO310 := n1_; have HB := n2_; clear n0_ n1_ n2_; (try clear hb); (try clear hb2); (try clear hk); (try clear hi)) | (go_at_call 15; (with_reducible refine (seen_Has.calls k _ _ t303 a1 a2 true _ ?side1 ?side2 A23.out).mono ?_); (case side1 => repeat (first | exact (Kd.V_reads' HO305.out).2.2 | (with_reducible refine Kd.C_alloc ?_ _) | (with_reducible refine Kd.C_drewN ?_ _) | (with_reducible refine Kd.C_drew ?_))); (case side2 => exact (Kd.V_reads' HO305.out).2.1); rintro e w33 ⟨rfl, hb⟩; have n0_ := Aside0.mk (Kd.V_below (by (with_reducible repeat (first | apply Kd.V_alloc | apply Kd.V_drewN | apply Kd.V_drew)); exact HO305.out) hb); have n1_ := Aside0.mk (Kd.V_below (by (with_reducible repeat (first | apply Kd.V_alloc | apply Kd.V_drewN | apply Kd.V_drew)); exact HO310.out) hb); have n2_ := Aside0.mk (below_step (by repeat (first | (with_reducible first | exact HB.out | apply below_alloc | apply pw_below_drewN | apply below_drew1) | exact HB.out)) hb); clear HO305; clear HO310; clear HB; have HO305 := n0_; have HO310 := n1_; have HB := n2_; clear n0_ n1_ n2_; (try clear hb); (try clear hb2); (try clear hk); (try clear hi); obtain ⟨Ao34, co34, eo34⟩ := Kd.V_slice HO310.out; subst eo34) | (go_at_call 17; (with_reducible refine (slotmeshref26_Same.calls k _ _ t303 _ _ t308 t316 _ ?side1 ?side2 ?side3 ?side4 A30.out).mono ?_); (case side1 => repeat (first | exact (Kd.V_reads' HO305.out).2.2 | (with_reducible refine Kd.C_alloc ?_ _) | (with_reducible refine Kd.C_drewN ?_ _) | (with_reducible refine Kd.C_drew ?_))); (case side2 => exact (Kd.V_reads' HO305.out).2.1); (case side3 => repeat (first | exact (Kd.V_reads' HO310.out).2.2 | (with_reducible refine Kd.C_alloc ?_ _) | (with_reducible refine Kd.C_drewN ?_ _) | (with_reducible refine Kd.C_drew ?_))); (case side4 => exact (Kd.V_reads' HO310.out).2.1); rintro e w' ⟨rfl, ⟨nd, rfl⟩⟩))
         go_meet
         case rel => exact ⟨_, (!t316), (by first | rfl | (simp; done) | (simp [*]; done)), H', ⟨by first | omega | exact Nat.le_refl _⟩, ⟨by (with_reducible repeat (first | apply Kd.V_alloc | apply Kd.V_drewN | apply Kd.V_drew)); exact HO305.out⟩, ⟨by repeat (first | (with_reducible first | exact HB.out | apply below_alloc | apply pw_below_drewN | apply below_drew1) | exact HB.out)⟩⟩
        ·rw [if_neg c29] at H
         have c29b0 : (t312 == 0) = false := beq_eq_false_iff_ne.mpr c29
         have c29b1 : (t312 != 0) = true := bne_iff_ne.mpr c29
         have H' := Aside0.mk H
         clear H
         go_wp2_with (first | ((with_reducible refine gate_callee (f := 13) rfl ?_); refine goesL_ (some 52) rfl rfl Try.func13 (by kernel_rfl) rfl #[.slice Ao15 t303.length co15] rfl (by (try simp only [List.map_toArray, List.map_cons, List.map_nil]); first | done | rfl | (simp only [List.length_drop, List.length_take]; rfl)) ?_; (with_reducible refine (seen_Valid.calls k _ _ t303 true _ ?side1 ?side2 A17.out).mono ?_); (case side1 => repeat (first | exact (Kd.V_reads' HO305.out).2.2 | (with_reducible refine Kd.C_alloc ?_ _) | (with_reducible refine Kd.C_drewN ?_ _) | (with_reducible refine Kd.C_drew ?_))); (case side2 => exact (Kd.V_reads' HO305.out).2.1); rintro e w35 ⟨rfl, hb⟩; refine ⟨_, rfl, ?_⟩; have n0_ := Aside0.mk (Kd.V_below (by (with_reducible repeat (first | apply Kd.V_alloc | apply Kd.V_drewN | apply Kd.V_drew)); exact HO305.out) hb); have n1_ := Aside0.mk (Kd.V_below (by (with_reducible repeat (first | apply Kd.V_alloc | apply Kd.V_drewN | apply Kd.V_drew)); exact HO310.out) hb); have n2_ := Aside0.mk (below_step (by repeat (first | (with_reducible first | exact HB.out | apply below_alloc | apply pw_below_drewN | apply below_drew1) | exact HB.out)) hb); clear HO305; clear HO310; clear HB; have HO305 := n0_; have HO310 := n1_; have HB := n2_; clear n0_ n1_ n2_; (try clear hb); (try clear hb2); (try clear hk); (try clear hi)) | (go_at_call 15; (with_reducible refine (seen_Has.calls k _ _ l0 a1 a2 t314 _ ?side1 ?side2 A19.out).mono ?_); (case side1 => repeat (first | exact (Kd.C_below HR0.out HB.out) | (with_reducible refine Kd.C_alloc ?_ _) | (with_reducible refine Kd.C_drewN ?_ _) | (with_reducible refine Kd.C_drew ?_))); (case side2 => exact HC0.out); rintro e w36 ⟨rfl, hb⟩; have n0_ := Aside0.mk (Kd.V_below (by (with_reducible repeat (first | apply Kd.V_alloc | apply Kd.V_drewN | apply Kd.V_drew)); exact HO305.out) hb); have n1_ := Aside0.mk (Kd.V_below (by (with_reducible repeat (first | apply Kd.V_alloc | apply Kd.V_drewN | apply Kd.V_drew)); exact HO310.out) hb); have n2_ := Aside0.mk (below_step (by repeat (first | (with_reducible first | exact HB.out | apply below_alloc | apply pw_below_drewN | apply below_drew1) | exact HB.out)) hb); clear HO305; clear HO310; clear HB; have HO305 := n0_; have HO310 := n1_; have HB := n2_; clear n0_ n1_ n2_; (try clear hb); (try clear hb2); (try clear hk); (try clear hi)) | (go_at_call 15; (with_reducible refine (seen_Has.calls k _ _ t303 a1 a2 true _ ?side1 ?side2 A23.out).mono ?_); (case side1 => repeat (first | exact (Kd.V_reads' HO305.out).2.2 | (with_reducible refine Kd.C_alloc ?_ _) | (with_reducible refine Kd.C_drewN ?_ _) | (with_reducible refine Kd.C_drew ?_))); (case side2 => exact (Kd.V_reads' HO305.out).2.1); rintro e w37 ⟨rfl, hb⟩; have n0_ := Aside0.mk (Kd.V_below (by (with_reducible repeat (first | apply Kd.V_alloc | apply Kd.V_drewN | apply Kd.V_drew)); exact HO305.out) hb); have n1_ := Aside0.mk (Kd.V_below (by (with_reducible repeat (first | apply Kd.V_alloc | apply Kd.V_drewN | apply Kd.V_drew)); exact HO310.out) hb); have n2_ := Aside0.mk (below_step (by repeat (first | (with_reducible first | exact HB.out | apply below_alloc | apply pw_below_drewN | apply below_drew1) | exact HB.out)) hb); clear HO305; clear HO310; clear HB; have HO305 := n0_; have HO310 := n1_; have HB := n2_; clear n0_ n1_ n2_; (try clear hb); (try clear hb2); (try clear hk); (try clear hi)))
         go_meet
         case rel => exact ⟨_, (true), (by first | rfl | (simp; done) | (simp [*]; done)), H', ⟨by first | omega | exact Nat.le_refl _⟩, ⟨by (with_reducible repeat (first | apply Kd.V_alloc | apply Kd.V_drewN | apply Kd.V_drew)); exact HO305.out⟩, ⟨by repeat (first | (with_reducible first | exact HB.out | apply below_alloc | apply pw_below_drewN | apply below_drew1) | exact HB.out)⟩⟩
      ·replace c24 := Bool.eq_false_iff.mpr c24
       subst c24
       have H1 : (slotmeshlaw26_SeenExactly.j0 k l0 a1 a2 a3 a4 t301 t303 true) = some r := by rw [if_neg (show ¬ (false = true) by decide)] at H; exact H
       clear H
       have H := H1
       clear H1
       have H' := Aside0.mk H
       clear H
       go_wp2_with (first | ((with_reducible refine gate_callee (f := 13) rfl ?_); refine goesL_ (some 52) rfl rfl Try.func13 (by kernel_rfl) rfl #[.slice Ao15 t303.length co15] rfl (by (try simp only [List.map_toArray, List.map_cons, List.map_nil]); first | done | rfl | (simp only [List.length_drop, List.length_take]; rfl)) ?_; (with_reducible refine (seen_Valid.calls k _ _ t303 true _ ?side1 ?side2 A17.out).mono ?_); (case side1 => repeat (first | exact (Kd.V_reads' HO305.out).2.2 | (with_reducible refine Kd.C_alloc ?_ _) | (with_reducible refine Kd.C_drewN ?_ _) | (with_reducible refine Kd.C_drew ?_))); (case side2 => exact (Kd.V_reads' HO305.out).2.1); rintro e w38 ⟨rfl, hb⟩; refine ⟨_, rfl, ?_⟩; have n0_ := Aside0.mk (Kd.V_below (by (with_reducible repeat (first | apply Kd.V_alloc | apply Kd.V_drewN | apply Kd.V_drew)); exact HO305.out) hb); have n1_ := Aside0.mk (Kd.V_below (by (with_reducible repeat (first | apply Kd.V_alloc | apply Kd.V_drewN | apply Kd.V_drew)); exact HO310.out) hb); have n2_ := Aside0.mk (below_step (by repeat (first | (with_reducible first | exact HB.out | apply below_alloc | apply pw_below_drewN | apply below_drew1) | exact HB.out)) hb); clear HO305; clear HO310; clear HB; have HO305 := n0_; have HO310 := n1_; have HB := n2_; clear n0_ n1_ n2_; (try clear hb); (try clear hb2); (try clear hk); (try clear hi)) | (go_at_call 15; (with_reducible refine (seen_Has.calls k _ _ l0 a1 a2 t314 _ ?side1 ?side2 A19.out).mono ?_); (case side1 => repeat (first | exact (Kd.C_below HR0.out HB.out) | (with_reducible refine Kd.C_alloc ?_ _) | (with_reducible refine Kd.C_drewN ?_ _) | (with_reducible refine Kd.C_drew ?_))); (case side2 => exact HC0.out); rintro e w39 ⟨rfl, hb⟩; have n0_ := Aside0.mk (Kd.V_below (by (with_reducible repeat (first | apply Kd.V_alloc | apply Kd.V_drewN | apply Kd.V_drew)); exact HO305.out) hb); have n1_ := Aside0.mk (Kd.V_below (by (with_reducible repeat (first | apply Kd.V_alloc | apply Kd.V_drewN | apply Kd.V_drew)); exact HO310.out) hb); have n2_ := Aside0.mk (below_step (by repeat (first | (with_reducible first | exact HB.out | apply below_alloc | apply pw_below_drewN | apply below_drew1) | exact HB.out)) hb); clear HO305; clear HO310; clear HB; have HO305 := n0_; have HO310 := n1_; have HB := n2_; clear n0_ n1_ n2_; (try clear hb); (try clear hb2); (try clear hk); (try clear hi)) | (go_at_call 15; (with_reducible refine (seen_Has.calls k _ _ t303 a1 a2 false _ ?side1 ?side2 A23.out).mono ?_); (case side1 => repeat (first | exact (Kd.V_reads' HO305.out).2.2 | (with_reducible refine Kd.C_alloc ?_ _) | (with_reducible refine Kd.C_drewN ?_ _) | (with_reducible refine Kd.C_drew ?_))); (case side2 => exact (Kd.V_reads' HO305.out).2.1); rintro e w40 ⟨rfl, hb⟩; have n0_ := Aside0.mk (Kd.V_below (by (with_reducible repeat (first | apply Kd.V_alloc | apply Kd.V_drewN | apply Kd.V_drew)); exact HO305.out) hb); have n1_ := Aside0.mk (Kd.V_below (by (with_reducible repeat (first | apply Kd.V_alloc | apply Kd.V_drewN | apply Kd.V_drew)); exact HO310.out) hb); have n2_ := Aside0.mk (below_step (by repeat (first | (with_reducible first | exact HB.out | apply below_alloc | apply pw_below_drewN | apply below_drew1) | exact HB.out)) hb); clear HO305; clear HO310; clear HB; have HO305 := n0_; have HO310 := n1_; have HB := n2_; clear n0_ n1_ n2_; (try clear hb); (try clear hb2); (try clear hk); (try clear hi)))
       go_meet
       case rel => exact ⟨_, (true), (by first | rfl | (simp; done) | (simp [*]; done)), H', ⟨by first | omega | exact Nat.le_refl _⟩, ⟨by (with_reducible repeat (first | apply Kd.V_alloc | apply Kd.V_drewN | apply Kd.V_drew)); exact HO305.out⟩, ⟨by repeat (first | (with_reducible first | exact HB.out | apply below_alloc | apply pw_below_drewN | apply below_drew1) | exact HB.out)⟩⟩
    ·replace c18 := Bool.eq_false_iff.mpr c18
     subst c18
     have H1 : (slotmeshlaw26_SeenExactly.j0 k l0 a1 a2 a3 a4 t301 t303 true) = some r := by rw [if_neg (show ¬ (false = true) by decide)] at H; exact H
     clear H
     have H := H1
     clear H1
     have H' := Aside0.mk H
     clear H
     go_wp2_with (first | ((with_reducible refine gate_callee (f := 13) rfl ?_); refine goesL_ (some 52) rfl rfl Try.func13 (by kernel_rfl) rfl #[.slice Ao15 t303.length co15] rfl (by (try simp only [List.map_toArray, List.map_cons, List.map_nil]); first | done | rfl | (simp only [List.length_drop, List.length_take]; rfl)) ?_; (with_reducible refine (seen_Valid.calls k _ _ t303 false _ ?side1 ?side2 A17.out).mono ?_); (case side1 => repeat (first | exact (Kd.V_reads' HO305.out).2.2 | (with_reducible refine Kd.C_alloc ?_ _) | (with_reducible refine Kd.C_drewN ?_ _) | (with_reducible refine Kd.C_drew ?_))); (case side2 => exact (Kd.V_reads' HO305.out).2.1); rintro e w41 ⟨rfl, hb⟩; refine ⟨_, rfl, ?_⟩; have n0_ := Aside0.mk (Kd.V_below (by (with_reducible repeat (first | apply Kd.V_alloc | apply Kd.V_drewN | apply Kd.V_drew)); exact HO305.out) hb); have n1_ := Aside0.mk (Kd.V_below (by (with_reducible repeat (first | apply Kd.V_alloc | apply Kd.V_drewN | apply Kd.V_drew)); exact HO310.out) hb); have n2_ := Aside0.mk (below_step (by repeat (first | (with_reducible first | exact HB.out | apply below_alloc | apply pw_below_drewN | apply below_drew1) | exact HB.out)) hb); clear HO305; clear HO310; clear HB; have HO305 := n0_; have HO310 := n1_; have HB := n2_; clear n0_ n1_ n2_; (try clear hb); (try clear hb2); (try clear hk); (try clear hi)))
     go_meet
     case rel => exact ⟨_, (true), (by first | rfl | (simp; done) | (simp [*]; done)), H', ⟨by first | omega | exact Nat.le_refl _⟩, ⟨by (with_reducible repeat (first | apply Kd.V_alloc | apply Kd.V_drewN | apply Kd.V_drew)); exact HO305.out⟩, ⟨by repeat (first | (with_reducible first | exact HB.out | apply below_alloc | apply pw_below_drewN | apply below_drew1) | exact HB.out)⟩⟩
   case rest =>
    clear HC12
    try clear c1
    try clear c2
    try clear p2
    try clear c4
    try clear c8
    try clear c9
    try clear c10
    try clear c10b0
    try clear c10b1
    try clear c11
    try clear c13
    try clear c18
    try clear c20
    try clear c20b0
    try clear c20b1
    try clear c20b2
    try clear c24
    try clear c25
    try clear c29
    try clear c29b0
    try clear c29b1
    obtain ⟨kq, x81_11, rfl, HA, HJ11, HO_12, HB⟩ := hcut
    cases kq with
    | zero => exact absurd HA.out (by simp [slotmeshlaw26_SeenExactly.j0])
    | succ kj11 =>
     have H := HA.out
     clear HA
     simp only [slotmeshlaw26_SeenExactly.j0] at H
     by_cases c42 : x81_11 = true
     ·subst c42
      have H1 : (some false) = some r := by rw [if_pos rfl] at H; exact H
      clear H
      have H := H1
      clear H1
      obtain rfl := Option.some.inj H
      go_wp2
      go_ret
      exact ⟨by first | rfl | (simp [errW_none, errW_some] <;> rfl) | (simp [*, errW_none, errW_some] <;> rfl), by repeat (first | (with_reducible first | exact HB.out | apply below_alloc | apply pw_below_drewN | apply below_drew1) | exact HB.out)⟩
     ·replace c42 := Bool.eq_false_iff.mpr c42
      subst c42
      have H1 : (if t301 = true then (if a3 = a1 then (if a4 = a2 then (some true) else ((seen_Has.f kj11 t303 a3 a4).bind fun t317 => ((seen_Has.f kj11 l0 a3 a4).bind fun t318 => (some (t317 == t318))))) else ((seen_Has.f kj11 t303 a3 a4).bind fun t319 => ((seen_Has.f kj11 l0 a3 a4).bind fun t320 => (some (t319 == t320))))) else (some false)) = some r := by rw [if_neg (show ¬ (false = true) by decide)] at H; exact H
      clear H
      have H := H1
      clear H1
      by_cases c43 : t301 = true
      ·subst c43
       have H1 : (if a3 = a1 then (if a4 = a2 then (some true) else ((seen_Has.f kj11 t303 a3 a4).bind fun t317 => ((seen_Has.f kj11 l0 a3 a4).bind fun t318 => (some (t317 == t318))))) else ((seen_Has.f kj11 t303 a3 a4).bind fun t319 => ((seen_Has.f kj11 l0 a3 a4).bind fun t320 => (some (t319 == t320))))) = some r := by rw [if_pos rfl] at H; exact H
       clear H
       have H := H1
       clear H1
       by_cases c44 : a3 = a1
       ·rw [if_pos c44] at H
        have c44b0 : (a3 == a1) = true := beq_iff_eq.mpr c44
        have c44b1 : (a3 != a1) = false := bne_eq_false_iff_eq.mpr c44
        clear c44
        by_cases c45 : a4 = a2
        ·rw [if_pos c45] at H
         have c45b0 : (a4 == a2) = true := beq_iff_eq.mpr c45
         have c45b1 : (a4 != a2) = false := bne_eq_false_iff_eq.mpr c45
         clear c45
         obtain rfl := Option.some.inj H
         go_wp2
         go_ret
         exact ⟨by first | rfl | (simp [errW_none, errW_some] <;> rfl) | (simp [*, errW_none, errW_some] <;> rfl), by repeat (first | (with_reducible first | exact HB.out | apply below_alloc | apply pw_below_drewN | apply below_drew1) | exact HB.out)⟩
        ·rw [if_neg c45] at H
         have c45b0 : (a4 == a2) = false := beq_eq_false_iff_ne.mpr c45
         have c45b1 : (a4 != a2) = true := bne_iff_ne.mpr c45
         replace H := Option.bind_eq_some_iff.mp H
         obtain ⟨t317, A460, H⟩ := H
         replace H : ((seen_Has.f kj11 l0 a3 a4).bind fun t318 => (some (t317 == t318))) = some r := H
         have A46 := Aside0.mk A460
         clear A460
         replace H := Option.bind_eq_some_iff.mp H
         obtain ⟨t318, A470, H⟩ := H
         replace H : (some (t317 == t318)) = some r := H
         have A47 := Aside0.mk A470
         clear A470
         obtain rfl := Option.some.inj H
         go_wp2_with (first | (go_at_call 15; (with_reducible refine (seen_Has.calls kj11 _ _ t303 a3 a4 t317 _ ?side1 ?side2 A46.out).mono ?_); (case side1 => repeat (first | exact (Kd.V_reads' HO_12.out).2.2 | (with_reducible refine Kd.C_alloc ?_ _) | (with_reducible refine Kd.C_drewN ?_ _) | (with_reducible refine Kd.C_drew ?_))); (case side2 => exact (Kd.V_reads' HO_12.out).2.1); rintro e w48 ⟨rfl, hb⟩; have n0_ := Aside0.mk (Kd.V_below (by (with_reducible repeat (first | apply Kd.V_alloc | apply Kd.V_drewN | apply Kd.V_drew)); exact HO_12.out) hb); have n1_ := Aside0.mk (below_step (by repeat (first | (with_reducible first | exact HB.out | apply below_alloc | apply pw_below_drewN | apply below_drew1) | exact HB.out)) hb); clear HO_12; clear HB; have HO_12 := n0_; have HB := n1_; clear n0_ n1_; (try clear hb); (try clear hb2); (try clear hk); (try clear hi)) | (go_at_call 15; (with_reducible refine (seen_Has.calls kj11 _ _ l0 a3 a4 t318 _ ?side1 ?side2 A47.out).mono ?_); (case side1 => repeat (first | exact (Kd.C_below HR0.out HB.out) | (with_reducible refine Kd.C_alloc ?_ _) | (with_reducible refine Kd.C_drewN ?_ _) | (with_reducible refine Kd.C_drew ?_))); (case side2 => exact HC0.out); rintro e w49 ⟨rfl, hb⟩; have n0_ := Aside0.mk (Kd.V_below (by (with_reducible repeat (first | apply Kd.V_alloc | apply Kd.V_drewN | apply Kd.V_drew)); exact HO_12.out) hb); have n1_ := Aside0.mk (below_step (by repeat (first | (with_reducible first | exact HB.out | apply below_alloc | apply pw_below_drewN | apply below_drew1) | exact HB.out)) hb); clear HO_12; clear HB; have HO_12 := n0_; have HB := n1_; clear n0_ n1_; (try clear hb); (try clear hb2); (try clear hk); (try clear hi)))
         go_ret
         exact ⟨by first | rfl | (simp [errW_none, errW_some] <;> rfl) | (simp [*, errW_none, errW_some] <;> rfl), by repeat (first | (with_reducible first | exact HB.out | apply below_alloc | apply pw_below_drewN | apply below_drew1) | exact HB.out)⟩
       ·rw [if_neg c44] at H
        have c44b0 : (a3 == a1) = false := beq_eq_false_iff_ne.mpr c44
        have c44b1 : (a3 != a1) = true := bne_iff_ne.mpr c44
        replace H := Option.bind_eq_some_iff.mp H
        obtain ⟨t319, A500, H⟩ := H
        replace H : ((seen_Has.f kj11 l0 a3 a4).bind fun t320 => (some (t319 == t320))) = some r := H
        have A50 := Aside0.mk A500
        clear A500
        replace H := Option.bind_eq_some_iff.mp H
        obtain ⟨t320, A510, H⟩ := H
        replace H : (some (t319 == t320)) = some r := H
        have A51 := Aside0.mk A510
        clear A510
        obtain rfl := Option.some.inj H
        go_wp2_with (first | (go_at_call 15; (with_reducible refine (seen_Has.calls kj11 _ _ t303 a3 a4 t319 _ ?side1 ?side2 A50.out).mono ?_); (case side1 => repeat (first | exact (Kd.V_reads' HO_12.out).2.2 | (with_reducible refine Kd.C_alloc ?_ _) | (with_reducible refine Kd.C_drewN ?_ _) | (with_reducible refine Kd.C_drew ?_))); (case side2 => exact (Kd.V_reads' HO_12.out).2.1); rintro e w52 ⟨rfl, hb⟩; have n0_ := Aside0.mk (Kd.V_below (by (with_reducible repeat (first | apply Kd.V_alloc | apply Kd.V_drewN | apply Kd.V_drew)); exact HO_12.out) hb); have n1_ := Aside0.mk (below_step (by repeat (first | (with_reducible first | exact HB.out | apply below_alloc | apply pw_below_drewN | apply below_drew1) | exact HB.out)) hb); clear HO_12; clear HB; have HO_12 := n0_; have HB := n1_; clear n0_ n1_; (try clear hb); (try clear hb2); (try clear hk); (try clear hi)) | (go_at_call 15; (with_reducible refine (seen_Has.calls kj11 _ _ l0 a3 a4 t320 _ ?side1 ?side2 A51.out).mono ?_); (case side1 => repeat (first | exact (Kd.C_below HR0.out HB.out) | (with_reducible refine Kd.C_alloc ?_ _) | (with_reducible refine Kd.C_drewN ?_ _) | (with_reducible refine Kd.C_drew ?_))); (case side2 => exact HC0.out); rintro e w53 ⟨rfl, hb⟩; have n0_ := Aside0.mk (Kd.V_below (by (with_reducible repeat (first | apply Kd.V_alloc | apply Kd.V_drewN | apply Kd.V_drew)); exact HO_12.out) hb); have n1_ := Aside0.mk (below_step (by repeat (first | (with_reducible first | exact HB.out | apply below_alloc | apply pw_below_drewN | apply below_drew1) | exact HB.out)) hb); clear HO_12; clear HB; have HO_12 := n0_; have HB := n1_; clear n0_ n1_; (try clear hb); (try clear hb2); (try clear hk); (try clear hi)))
        go_ret
        exact ⟨by first | rfl | (simp [errW_none, errW_some] <;> rfl) | (simp [*, errW_none, errW_some] <;> rfl), by repeat (first | (with_reducible first | exact HB.out | apply below_alloc | apply pw_below_drewN | apply below_drew1) | exact HB.out)⟩
      ·replace c43 := Bool.eq_false_iff.mpr c43
       subst c43
       have H1 : (some false) = some r := by rw [if_neg (show ¬ (false = true) by decide)] at H; exact H
       clear H
       have H := H1
       clear H1
       obtain rfl := Option.some.inj H
       go_wp2
       go_ret
       exact ⟨by first | rfl | (simp [errW_none, errW_some] <;> rfl) | (simp [*, errW_none, errW_some] <;> rfl), by repeat (first | (with_reducible first | exact HB.out | apply below_alloc | apply pw_below_drewN | apply below_drew1) | exact HB.out)⟩
  ·rw [if_neg c10] at H
   have c10b0 : (t307 == 0) = false := beq_eq_false_iff_ne.mpr c10
   have c10b1 : (t307 != 0) = true := bne_iff_ne.mpr c10
   by_cases c54 : t301 = true
   ·subst c54
    have H1 : (if (t303.length : Int) = 0 then (some (!t306)) else (some false)) = some r := by rw [if_pos rfl] at H; exact H
    clear H
    have H := H1
    clear H1
    by_cases c55 : (t303.length : Int) = 0
    ·rw [if_pos c55] at H
     have c55b0 : ((t303.length : Int) == 0) = true := beq_iff_eq.mpr c55
     have c55b1 : ((t303.length : Int) != 0) = false := bne_eq_false_iff_eq.mpr c55
     clear c55
     obtain rfl := Option.some.inj H
     go_enter Try.func4, Try.ntmps4
     go_wp2_with (first | ((with_reducible refine gate_callee (f := 9) rfl ?_); refine goesL_ (some 18) rfl rfl Try.func9 (by kernel_rfl) rfl #[] rfl (by (try simp only [List.map_toArray, List.map_cons, List.map_nil]); first | done | rfl | (simp only [List.length_drop, List.length_take]; rfl)) ?_; (with_reducible refine (slotmeshlaw26_head.calls k  true _ A6.out).mono ?_); rintro e w56 ⟨rfl, hb⟩; refine ⟨_, rfl, ?_⟩; have n0_ := Aside0.mk (below_step (by repeat (first | (with_reducible first | exact HB.out | apply below_alloc | apply pw_below_drewN | apply below_drew1) | exact HB.out)) hb); clear HB; have HB := n0_; clear n0_; (try clear hb); (try clear hb2); (try clear hk); (try clear hi)) | ((with_reducible refine gate_callee (f := 10) rfl ?_); refine goesL_ (some 20) rfl rfl Try.func10 (by kernel_rfl) rfl #[.slice A0 l0.length c0] rfl (by (try simp only [List.map_toArray, List.map_cons, List.map_nil]); first | done | rfl | (simp only [List.length_drop, List.length_take]; rfl)) ?_; (with_reducible refine (slotmeshref26_Few.calls k _ _ l0 true _ ?side1 ?side2 A7.out).mono ?_); (case side1 => repeat (first | exact (Kd.C_below HR0.out HB.out) | (with_reducible refine Kd.C_alloc ?_ _) | (with_reducible refine Kd.C_drewN ?_ _) | (with_reducible refine Kd.C_drew ?_))); (case side2 => exact HC0.out); rintro e w' ⟨rfl, ⟨nd, rfl⟩⟩; refine ⟨_, rfl, ?_⟩) | ((with_reducible refine gate_callee (f := 11) rfl ?_); refine goesL_ (some 27) rfl rfl Try.func11 (by kernel_rfl) rfl #[.slice A0 l0.length c0, .int .i64 a1, .int .i64 a2] rfl (by (try simp only [List.map_toArray, List.map_cons, List.map_nil]); first | done | rfl | (simp only [List.length_drop, List.length_take]; rfl)) ?_; (with_reducible refine (seen_Add.calls k (fun k_ => k_ < w.heap.size) _ _ l0 a1 a2 t303 t306 t307 _ ?side1 A9.out).mono ?_); (case side1 => exact Kd.V_mk HC0.out (Kd.F_below (Kd.C_F k45_heap HR0.out) (by repeat (first | (with_reducible first | exact HB.out | apply below_alloc | apply pw_below_drewN | apply below_drew1) | exact HB.out)))); rintro e w57 ⟨v304, rfl, ho0, hb⟩; refine ⟨_, rfl, ?_⟩; have n0_ := Aside0.mk (Kd.V_lower (Kd.V_mono (ok' := fun k_ => True) ho0 (fun k_ hk_ => trivial)) (below_size (by repeat (first | (with_reducible first | exact HB.out | apply below_alloc | apply pw_below_drewN | apply below_drew1) | exact HB.out)))); have n1_ := Aside0.mk (below_step (by repeat (first | (with_reducible first | exact HB.out | apply below_alloc | apply pw_below_drewN | apply below_drew1) | exact HB.out)) hb); clear HB; have HO305 := n0_; have HB := n1_; clear n0_ n1_; (try clear hb); (try clear hb2); (try clear hk); (try clear hi); (try clear ho0); obtain ⟨Ao58, co58, eo58⟩ := Kd.V_slice HO305.out; subst eo58))
     go_ret
     exact ⟨by first | rfl | (simp [errW_none, errW_some] <;> rfl) | (simp [*, errW_none, errW_some] <;> rfl), by repeat (first | (with_reducible first | exact HB.out | apply below_alloc | apply pw_below_drewN | apply below_drew1) | exact HB.out)⟩
    ·rw [if_neg c55] at H
     have c55b0 : ((t303.length : Int) == 0) = false := beq_eq_false_iff_ne.mpr c55
     have c55b1 : ((t303.length : Int) != 0) = true := bne_iff_ne.mpr c55
     have c55b2 : ¬ (t303 = []) := fun h_ => c55 (by rw [h_]; rfl)
     obtain rfl := Option.some.inj H
     go_enter Try.func4, Try.ntmps4
     go_wp2_with (first | ((with_reducible refine gate_callee (f := 9) rfl ?_); refine goesL_ (some 18) rfl rfl Try.func9 (by kernel_rfl) rfl #[] rfl (by (try simp only [List.map_toArray, List.map_cons, List.map_nil]); first | done | rfl | (simp only [List.length_drop, List.length_take]; rfl)) ?_; (with_reducible refine (slotmeshlaw26_head.calls k  true _ A6.out).mono ?_); rintro e w59 ⟨rfl, hb⟩; refine ⟨_, rfl, ?_⟩; have n0_ := Aside0.mk (below_step (by repeat (first | (with_reducible first | exact HB.out | apply below_alloc | apply pw_below_drewN | apply below_drew1) | exact HB.out)) hb); clear HB; have HB := n0_; clear n0_; (try clear hb); (try clear hb2); (try clear hk); (try clear hi)) | ((with_reducible refine gate_callee (f := 10) rfl ?_); refine goesL_ (some 20) rfl rfl Try.func10 (by kernel_rfl) rfl #[.slice A0 l0.length c0] rfl (by (try simp only [List.map_toArray, List.map_cons, List.map_nil]); first | done | rfl | (simp only [List.length_drop, List.length_take]; rfl)) ?_; (with_reducible refine (slotmeshref26_Few.calls k _ _ l0 true _ ?side1 ?side2 A7.out).mono ?_); (case side1 => repeat (first | exact (Kd.C_below HR0.out HB.out) | (with_reducible refine Kd.C_alloc ?_ _) | (with_reducible refine Kd.C_drewN ?_ _) | (with_reducible refine Kd.C_drew ?_))); (case side2 => exact HC0.out); rintro e w' ⟨rfl, ⟨nd, rfl⟩⟩; refine ⟨_, rfl, ?_⟩) | ((with_reducible refine gate_callee (f := 11) rfl ?_); refine goesL_ (some 27) rfl rfl Try.func11 (by kernel_rfl) rfl #[.slice A0 l0.length c0, .int .i64 a1, .int .i64 a2] rfl (by (try simp only [List.map_toArray, List.map_cons, List.map_nil]); first | done | rfl | (simp only [List.length_drop, List.length_take]; rfl)) ?_; (with_reducible refine (seen_Add.calls k (fun k_ => k_ < w.heap.size) _ _ l0 a1 a2 t303 t306 t307 _ ?side1 A9.out).mono ?_); (case side1 => exact Kd.V_mk HC0.out (Kd.F_below (Kd.C_F k45_heap HR0.out) (by repeat (first | (with_reducible first | exact HB.out | apply below_alloc | apply pw_below_drewN | apply below_drew1) | exact HB.out)))); rintro e w60 ⟨v304, rfl, ho0, hb⟩; refine ⟨_, rfl, ?_⟩; have n0_ := Aside0.mk (Kd.V_lower (Kd.V_mono (ok' := fun k_ => True) ho0 (fun k_ hk_ => trivial)) (below_size (by repeat (first | (with_reducible first | exact HB.out | apply below_alloc | apply pw_below_drewN | apply below_drew1) | exact HB.out)))); have n1_ := Aside0.mk (below_step (by repeat (first | (with_reducible first | exact HB.out | apply below_alloc | apply pw_below_drewN | apply below_drew1) | exact HB.out)) hb); clear HB; have HO305 := n0_; have HB := n1_; clear n0_ n1_; (try clear hb); (try clear hb2); (try clear hk); (try clear hi); (try clear ho0); obtain ⟨Ao61, co61, eo61⟩ := Kd.V_slice HO305.out; subst eo61))
     go_ret
     exact ⟨by first | rfl | (simp [errW_none, errW_some] <;> rfl) | (simp [*, errW_none, errW_some] <;> rfl), by repeat (first | (with_reducible first | exact HB.out | apply below_alloc | apply pw_below_drewN | apply below_drew1) | exact HB.out)⟩
   ·replace c54 := Bool.eq_false_iff.mpr c54
    subst c54
    have H1 : (some false) = some r := by rw [if_neg (show ¬ (false = true) by decide)] at H; exact H
    clear H
    have H := H1
    clear H1
    obtain rfl := Option.some.inj H
    go_enter Try.func4, Try.ntmps4
    go_wp2_with (first | ((with_reducible refine gate_callee (f := 9) rfl ?_); refine goesL_ (some 18) rfl rfl Try.func9 (by kernel_rfl) rfl #[] rfl (by (try simp only [List.map_toArray, List.map_cons, List.map_nil]); first | done | rfl | (simp only [List.length_drop, List.length_take]; rfl)) ?_; (with_reducible refine (slotmeshlaw26_head.calls k  false _ A6.out).mono ?_); rintro e w62 ⟨rfl, hb⟩; refine ⟨_, rfl, ?_⟩; have n0_ := Aside0.mk (below_step (by repeat (first | (with_reducible first | exact HB.out | apply below_alloc | apply pw_below_drewN | apply below_drew1) | exact HB.out)) hb); clear HB; have HB := n0_; clear n0_; (try clear hb); (try clear hb2); (try clear hk); (try clear hi)) | ((with_reducible refine gate_callee (f := 10) rfl ?_); refine goesL_ (some 20) rfl rfl Try.func10 (by kernel_rfl) rfl #[.slice A0 l0.length c0] rfl (by (try simp only [List.map_toArray, List.map_cons, List.map_nil]); first | done | rfl | (simp only [List.length_drop, List.length_take]; rfl)) ?_; (with_reducible refine (slotmeshref26_Few.calls k _ _ l0 true _ ?side1 ?side2 A7.out).mono ?_); (case side1 => repeat (first | exact (Kd.C_below HR0.out HB.out) | (with_reducible refine Kd.C_alloc ?_ _) | (with_reducible refine Kd.C_drewN ?_ _) | (with_reducible refine Kd.C_drew ?_))); (case side2 => exact HC0.out); rintro e w' ⟨rfl, ⟨nd, rfl⟩⟩; refine ⟨_, rfl, ?_⟩) | ((with_reducible refine gate_callee (f := 11) rfl ?_); refine goesL_ (some 27) rfl rfl Try.func11 (by kernel_rfl) rfl #[.slice A0 l0.length c0, .int .i64 a1, .int .i64 a2] rfl (by (try simp only [List.map_toArray, List.map_cons, List.map_nil]); first | done | rfl | (simp only [List.length_drop, List.length_take]; rfl)) ?_; (with_reducible refine (seen_Add.calls k (fun k_ => k_ < w.heap.size) _ _ l0 a1 a2 t303 t306 t307 _ ?side1 A9.out).mono ?_); (case side1 => exact Kd.V_mk HC0.out (Kd.F_below (Kd.C_F k45_heap HR0.out) (by repeat (first | (with_reducible first | exact HB.out | apply below_alloc | apply pw_below_drewN | apply below_drew1) | exact HB.out)))); rintro e w63 ⟨v304, rfl, ho0, hb⟩; refine ⟨_, rfl, ?_⟩; have n0_ := Aside0.mk (Kd.V_lower (Kd.V_mono (ok' := fun k_ => True) ho0 (fun k_ hk_ => trivial)) (below_size (by repeat (first | (with_reducible first | exact HB.out | apply below_alloc | apply pw_below_drewN | apply below_drew1) | exact HB.out)))); have n1_ := Aside0.mk (below_step (by repeat (first | (with_reducible first | exact HB.out | apply below_alloc | apply pw_below_drewN | apply below_drew1) | exact HB.out)) hb); clear HB; have HO305 := n0_; have HB := n1_; clear n0_ n1_; (try clear hb); (try clear hb2); (try clear hk); (try clear hi); (try clear ho0)))
    go_ret
    exact ⟨by first | rfl | (simp [errW_none, errW_some] <;> rfl) | (simp [*, errW_none, errW_some] <;> rfl), by repeat (first | (with_reducible first | exact HB.out | apply below_alloc | apply pw_below_drewN | apply below_drew1) | exact HB.out)⟩
 ·replace c8 := Bool.eq_false_iff.mpr c8
  subst c8
  have H1 : (some t301) = some r := by rw [if_neg (show ¬ (false = true) by decide)] at H; exact H
  clear H
  have H := H1
  clear H1
  obtain rfl := Option.some.inj H
  go_enter Try.func4, Try.ntmps4
  go_wp2_with (first | ((with_reducible refine gate_callee (f := 9) rfl ?_); refine goesL_ (some 18) rfl rfl Try.func9 (by kernel_rfl) rfl #[] rfl (by (try simp only [List.map_toArray, List.map_cons, List.map_nil]); first | done | rfl | (simp only [List.length_drop, List.length_take]; rfl)) ?_; (with_reducible refine (slotmeshlaw26_head.calls k  t301 _ A6.out).mono ?_); rintro e w64 ⟨rfl, hb⟩; refine ⟨_, rfl, ?_⟩; have n0_ := Aside0.mk (below_step (by repeat (first | (with_reducible first | exact HB.out | apply below_alloc | apply pw_below_drewN | apply below_drew1) | exact HB.out)) hb); clear HB; have HB := n0_; clear n0_; (try clear hb); (try clear hb2); (try clear hk); (try clear hi)) | ((with_reducible refine gate_callee (f := 10) rfl ?_); refine goesL_ (some 20) rfl rfl Try.func10 (by kernel_rfl) rfl #[.slice A0 l0.length c0] rfl (by (try simp only [List.map_toArray, List.map_cons, List.map_nil]); first | done | rfl | (simp only [List.length_drop, List.length_take]; rfl)) ?_; (with_reducible refine (slotmeshref26_Few.calls k _ _ l0 false _ ?side1 ?side2 A7.out).mono ?_); (case side1 => repeat (first | exact (Kd.C_below HR0.out HB.out) | (with_reducible refine Kd.C_alloc ?_ _) | (with_reducible refine Kd.C_drewN ?_ _) | (with_reducible refine Kd.C_drew ?_))); (case side2 => exact HC0.out); rintro e w' ⟨rfl, ⟨nd, rfl⟩⟩; refine ⟨_, rfl, ?_⟩))
  go_ret
  exact ⟨by first | rfl | (simp [errW_none, errW_some] <;> rfl) | (simp [*, errW_none, errW_some] <;> rfl), by repeat (first | (with_reducible first | exact HB.out | apply below_alloc | apply pw_below_drewN | apply below_drew1) | exact HB.out)⟩

-- NOT PRINTED: function 21 (slotmeshlaw26_added)

-- NOT PRINTED: function 5 (slotmeshlaw26_SeenOrder)

/-! ### slotmeshlaw26_intervals: function 22 -/
def slotmeshlaw26_intervals.l0 : Nat → Int → List (S45) → Int → Int → Option (Int)
 | 0, _, _, _, _ => none
 | k + 1, x3, x6, x7, x8 => if x8 < x7 then (if 0 ≤ x8 then (if x8 < (x6.length : Int) then (slotmeshlaw26_intervals.l0 k (wrap64 (x3 + (((rd_T45 x6 x8).f1).length : Int))) x6 x7 (wrap64 (x8 + 1))) else (none)) else (none)) else (some x3)
def slotmeshlaw26_intervals.f (k : Nat) (l0 : List (S45)) : Option (Int) := slotmeshlaw26_intervals.l0 k 0 l0 (l0.length : Int) 0
theorem slotmeshlaw26_intervals.mono_l : ∀ k, (∀ y0 y1 y2 y3, LeO (slotmeshlaw26_intervals.l0 k y0 y1 y2 y3) (slotmeshlaw26_intervals.l0 (k + 1) y0 y1 y2 y3))
 | 0 => fun _ _ _ _ r h => by simp [slotmeshlaw26_intervals.l0] at h
 | k + 1 => by
  have ih0 := slotmeshlaw26_intervals.mono_l k
  ·intro y0 y1 y2 y3
   unfold slotmeshlaw26_intervals.l0
   repeat' first
   | (with_reducible exact ih0 _ _ _ _)
   | (with_reducible exact LeO.refl _)
   | (with_reducible exact LeO.none _)
   | (with_reducible refine LeO.ite ?_ ?_)
   | (with_reducible refine LeO.bind ?_ (fun _ => ?_))
   | exact ih0 _ _ _ _
   | exact LeO.none _
   | refine LeO.ite ?_ ?_
   | refine LeO.bind ?_ (fun _ => ?_)
theorem slotmeshlaw26_intervals.mono : ∀ a0 k, LeO (slotmeshlaw26_intervals.f k a0) (slotmeshlaw26_intervals.f (k + 1) a0) := by
 intro a0 k
 have ih0 := slotmeshlaw26_intervals.mono_l k
 unfold slotmeshlaw26_intervals.f
 repeat' first
   | (with_reducible exact ih0 _ _ _ _)
   | (with_reducible exact LeO.refl _)
   | (with_reducible exact LeO.none _)
   | (with_reducible refine LeO.ite ?_ ?_)
   | (with_reducible refine LeO.bind ?_ (fun _ => ?_))
   | exact ih0 _ _ _ _
   | exact LeO.none _
   | refine LeO.ite ?_ ?_
   | refine LeO.bind ?_ (fun _ => ?_)
set_option maxHeartbeats 8000000 in
set_option maxRecDepth 100000 in
theorem slotmeshlaw26_intervals.calls (k : Nat) (A0 : Option Addr) (c0 : Nat) (l0 : List (S45)) (r : Int) (w : World) (hr0 : Kd.C k45 w A0 l0.length l0) (hc0 : l0.length ≤ c0) (h : slotmeshlaw26_intervals.f k l0 = some r) :
  Calls Try.prog 22 #[.slice A0 l0.length c0] w fun e w' => e = .returned (.int .i64 r) ∧ Below w.heap.size w w' := by
 have hu45 := Try.underlying45
 have HR0 := Aside0.mk hr0
 have HC0 := Aside0.mk hc0
 clear hr0 hc0
 have HB := Aside0.mk (Below.refl w.heap.size w)
 have H : (slotmeshlaw26_intervals.l0 k 0 l0 (l0.length : Int) 0) = some r := h
 clear h
 have H' := Aside0.mk H
 clear H
 go_enter Try.func22, Try.ntmps22
 go_wp2
 go_loopg [3, 8] k (fun kq v3 v8 w' => ∃ (x3_1 : Int) (x8_1 : Int), v3 = .int .i64 x3_1 ∧ v8 = .int .i64 x8_1 ∧ Aside0 (slotmeshlaw26_intervals.l0 kq x3_1 l0 (l0.length : Int) x8_1 = some r) ∧ Aside0 (kq ≤ k) ∧ Aside0 (Below w.heap.size w w'))
 case atStart => exact ⟨(0), (0), (by first | rfl | (simp; done) | (simp [*]; done)), (by first | rfl | (simp; done) | (simp [*]; done)), H', ⟨Nat.le_refl _⟩, ⟨by repeat (first | (with_reducible first | exact HB.out | apply below_alloc | apply pw_below_drewN | apply below_drew1) | exact HB.out)⟩⟩
 case round =>
  clear H'
  obtain ⟨x3_1, x8_1, rfl, rfl, HA, HK1, HB⟩ := hrel
  cases gk with
  | zero => exact absurd HA.out (by simp [slotmeshlaw26_intervals.l0])
  | succ k1 =>
   have H := HA.out
   clear HA
   simp only [slotmeshlaw26_intervals.l0] at H
   by_cases c2 : x8_1 < (l0.length : Int)
   ·rw [if_pos c2] at H
    have c2b0 : decide (x8_1 < (l0.length : Int)) = true := decide_eq_true c2
    clear c2
    by_cases c3 : 0 ≤ x8_1
    ·rw [if_pos c3] at H
     have c3b0 : decide (0 ≤ x8_1) = true := decide_eq_true c3
     clear c3
     by_cases c4 : x8_1 < (l0.length : Int)
     ·rw [if_pos c4] at H
      have c4b0 : decide (x8_1 < (l0.length : Int)) = true := decide_eq_true c4
      clear c4
      have H' := Aside0.mk H
      clear H
      have p321 : 0 ≤ (x8_1 : Int) := of_decide_eq_true (by first | (with_reducible assumption) | assumption)
      have q321 : x8_1 < (l0.length : Int) := of_decide_eq_true (by first | (with_reducible assumption) | assumption)
      obtain ⟨ad321, A321_1, c321_1, e321, hx321_0, hx321_1, hl321_1, hi321_1⟩ := at_T45 HR0.out x8_1 p321 q321
      cases e321
      replace hx321_0 := (HB.out.cell (World.block_lt_of_cell? w _ hx321_0)).trans hx321_0
      replace hx321_1 := (HB.out.cell (World.block_lt_of_cell? w _ hx321_1)).trans hx321_1
      have HR321_1 := Aside0.mk hi321_1
      have HC321_1 := Aside0.mk hl321_1
      clear hi321_1 hl321_1
      replace p321 := eq_true p321
      replace q321 := eq_true q321
      go_wp2_with (first | ((with_reducible refine gate_dst (N := 5) rfl ?_); refine box_event ?hg (N := 5) ?hd (cs := #[.int .i64 0, .slice none 0 0]) (t := 45) ?hr ?_; (case hd => rfl); (case hg => rfl); (case hr => first | (go_simp; done) | (go_simp; rfl)); intro gb322 hg w5 hbox hb; have n0_ := Aside0.mk (below_step (by repeat (first | (with_reducible first | exact HB.out | apply below_alloc | apply pw_below_drewN | apply below_drew1) | exact HB.out)) hb); have n1_ := Aside0.mk (hbox); have n2_ := Aside0.mk ((by rw [hg]; exact (below_size (by repeat (first | (with_reducible first | exact HB.out | apply below_alloc | apply pw_below_drewN | apply below_drew1) | exact HB.out))) : w.heap.size ≤ gb322)); have n3_ := Aside0.mk ((by rw [hg]; exact (below_size (by repeat (first | (with_reducible first | exact HB.out | apply below_alloc | apply pw_below_drewN | apply below_drew1) | exact HB.out))) : w.heap.size ≤ gb322)); clear HB; have HB := n0_; have BK322 := n1_; have GW322 := n2_; have GE322 := n3_; clear n0_ n1_ n2_ n3_; clear hb hbox hg; have hcz6_0 : w5.cell? ⟨gb322, 0, none⟩ = some (.int .i64 0) := (blk_cell BK322.out 0).trans rfl; have hcz6_1 : w5.cell? ⟨gb322, 1, none⟩ = some (.slice none 0 0) := (blk_cell BK322.out 1).trans rfl; have hfz6_0 := blk_frozen BK322.out 0; have hfz6_1 := blk_frozen BK322.out 1))
      go_roundg k1
      case measure => have := HK1.out; omega
      case rel => exact ⟨(wrap64 (x3_1 + (((rd_T45 l0 x8_1).f1).length : Int))), (wrap64 (x8_1 + 1)), (by first | rfl | (simp; done) | (simp [*]; done)), (by first | rfl | (simp; done) | (simp [*]; done)), H', ⟨by have := HK1.out; omega⟩, ⟨by repeat (first | (with_reducible first | exact HB.out | apply below_alloc | apply pw_below_drewN | apply below_drew1 | refine below_set ?_ GE322.out) | exact HB.out)⟩⟩
     ·rw [if_neg c4] at H
      exact absurd H (by simp)
    ·rw [if_neg c3] at H
     exact absurd H (by simp)
   ·rw [if_neg c2] at H
    have c2b0 : decide (x8_1 < (l0.length : Int)) = false := decide_eq_false c2
    clear c2
    obtain rfl := Option.some.inj H
    go_wp2
    go_ret
    exact ⟨by first | rfl | (simp [errW_none, errW_some] <;> rfl) | (simp [*, errW_none, errW_some] <;> rfl), by repeat (first | (with_reducible first | exact HB.out | apply below_alloc | apply pw_below_drewN | apply below_drew1) | exact HB.out)⟩

end Go.Proofs.Ytjibgfihfbdcaaa.PSeen
