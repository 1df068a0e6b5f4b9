-- A text of this claim, written by this session's program. -- SLIM
import Derived.Test.YtjibgfihfbdcaaaPSeenx0
import Derived.Test.YtjibgfihfbdcaaaPSeenx6
import Derived.Test.YtjibgfihfbdcaaaPSeenx7
import Derived.Test.YtjibgfihfbdcaaaPSeenx8
import Derived.Test.YtjibgfihfbdcaaaPSeenx9
import Derived.Test.YtjibgfihfbdcaaaPSeenx13
namespace Go.Proofs.Ytjibgfihfbdcaaa.PSeen
open Go.RowKit Go.Proofs.YtjibgfihfbdcaaaW.PrintWords Go.Proofs.YtjibgfihfbdcaaaW.PrintLast Go.Proofs.YtjibgfihfbdcaaaW.PrintMore
attribute [local go_sem] max2_int min2_int max_two min_two max_three min_three max_four min_four   -- for this text's walks alone
set_option linter.unusedVariables false
set_option linter.unusedSimpArgs false

/-! ### slotmeshlaw26_SeenRoom: function 6 -/
mutual
def slotmeshlaw26_SeenRoom.j0 : Nat → List (S45) → Int → Int → Bool → Bool → Option (Bool)
 | 0, _, _, _, _, _ => none
 | k + 1, x0, x1, x2, x7, x26 => if x26 = true then (some x7) else ((seen_Add.f k x0 (Int.tmod (wrap64 (x1)) 60) (wrap64 (1 + (Int.tmod (wrap64 (x2)) 1000000000)))).bind fun bt326 => ((some (([wrap64 ((wrap64 (1 + (Int.tmod (wrap64 (x2)) 1000000000))) - 1), wrap64 ((wrap64 (1 + (Int.tmod (wrap64 (x2)) 1000000000))) + 1)] : List Int) : List Int)).bind fun y331 => (slotmeshlaw26_SeenRoom.l0 k x0 x7 (Int.tmod (wrap64 (x1)) 60) (wrap64 (1 + (Int.tmod (wrap64 (x2)) 1000000000))) bt326.1 bt326.2.2 0 y331 (y331.length : Int) 0)))
def slotmeshlaw26_SeenRoom.l0 : Nat → List (S45) → Bool → Int → Int → List (S45) → Int → Int → List Int → Int → Int → Option (Bool)
 | 0, _, _, _, _, _, _, _, _, _, _ => none
 | k + 1, x0, x7, x8, x9, x10, x12, x13, x47, x48, x49 => if x49 < x48 then (if 0 ≤ x49 then (if x49 < (x47.length : Int) then ((seen_Has.f k x0 x8 (rd x47 x49)).bind fun t335 => (if t335 = true then (slotmeshlaw26_SeenRoom.l0 k x0 x7 x8 x9 x10 x12 (wrap64 (x13 + 1)) x47 x48 (wrap64 (x49 + 1))) else (slotmeshlaw26_SeenRoom.l0 k x0 x7 x8 x9 x10 x12 x13 x47 x48 (wrap64 (x49 + 1))))) else (none)) else (none)) else ((seen_Has.f k x0 x8 x9).bind fun t336 => ((slotmeshlaw26_intervals.f k x0).bind fun t337 => (if t337 = 64 then (if t336 = true then (slotmeshlaw26_SeenRoom.j2 k x0 x7 x10 x12 x13 t336 false) else (slotmeshlaw26_SeenRoom.j2 k x0 x7 x10 x12 x13 t336 (x13 == 0))) else (slotmeshlaw26_SeenRoom.j2 k x0 x7 x10 x12 x13 t336 false))))
def slotmeshlaw26_SeenRoom.j2 : Nat → List (S45) → Bool → List (S45) → Int → Int → Bool → Bool → Option (Bool)
 | 0, _, _, _, _, _, _, _ => none
 | k + 1, x0, x7, x10, x12, x13, x16, x74 => if x74 = true then (if x7 = true then (some (x12 == 10)) else (some false)) else (if x16 = true then (if x7 = true then (if x12 = 0 then ((slotmeshlaw26_intervals.f k x10).bind fun t338 => ((slotmeshlaw26_intervals.f k x0).bind fun t339 => (some (t338 == (wrap64 (t339 + 0)))))) else (some false)) else (some false)) else (if x7 = true then (if x12 = 0 then ((slotmeshlaw26_intervals.f k x10).bind fun t340 => ((slotmeshlaw26_intervals.f k x0).bind fun t341 => (some (t340 == (wrap64 (t341 + (wrap64 (1 - x13)))))))) else (some false)) else (some false)))
end
def slotmeshlaw26_SeenRoom.f (k : Nat) (l0 : List (S45)) (a1 : Int) (a2 : Int) : Option (Bool) := (slotmeshlaw26_head.f k).bind fun t323 => ((slotmeshref26_Few.f k l0).bind fun t324 => (if t324 = true then ((slotmeshref26_Valid.f k l0).bind fun t325 => (slotmeshlaw26_SeenRoom.j0 k l0 a1 a2 t323 (!t325))) else (slotmeshlaw26_SeenRoom.j0 k l0 a1 a2 t323 true)))
theorem slotmeshlaw26_SeenRoom.mono_l : ∀ k, (∀ y0 y1 y2 y3 y4, LeO (slotmeshlaw26_SeenRoom.j0 k y0 y1 y2 y3 y4) (slotmeshlaw26_SeenRoom.j0 (k + 1) y0 y1 y2 y3 y4)) ∧ (∀ y0 y1 y2 y3 y4 y5 y6 y7 y8 y9, LeO (slotmeshlaw26_SeenRoom.l0 k y0 y1 y2 y3 y4 y5 y6 y7 y8 y9) (slotmeshlaw26_SeenRoom.l0 (k + 1) y0 y1 y2 y3 y4 y5 y6 y7 y8 y9)) ∧ (∀ y0 y1 y2 y3 y4 y5 y6, LeO (slotmeshlaw26_SeenRoom.j2 k y0 y1 y2 y3 y4 y5 y6) (slotmeshlaw26_SeenRoom.j2 (k + 1) y0 y1 y2 y3 y4 y5 y6))
 | 0 => ⟨fun _ _ _ _ _ r h => by simp [slotmeshlaw26_SeenRoom.j0] at h, fun _ _ _ _ _ _ _ _ _ _ r h => by simp [slotmeshlaw26_SeenRoom.l0] at h, fun _ _ _ _ _ _ _ r h => by simp [slotmeshlaw26_SeenRoom.j2] at h⟩
 | k + 1 => by
  obtain ⟨ih0, ih1, ih2⟩ := slotmeshlaw26_SeenRoom.mono_l k
  refine ⟨?_, ?_, ?_⟩
  ·intro y0 y1 y2 y3 y4
   unfold slotmeshlaw26_SeenRoom.j0
   repeat' first
   | (with_reducible exact ih0 _ _ _ _ _)
   | (with_reducible exact ih1 _ _ _ _ _ _ _ _ _ _)
   | (with_reducible exact ih2 _ _ _ _ _ _ _)
   | (with_reducible exact seen_Add.mono _ _ _ _)
   | (with_reducible exact seen_Has.mono _ _ _ _)
   | (with_reducible exact slotmeshlaw26_head.mono _)
   | (with_reducible exact slotmeshlaw26_intervals.mono _ _)
   | (with_reducible exact slotmeshref26_Few.mono _ _)
   | (with_reducible exact slotmeshref26_Valid.mono _ _)
   | (with_reducible exact LeO.refl _)
   | (with_reducible exact LeO.none _)
   | (with_reducible refine LeO.ite ?_ ?_)
   | (with_reducible refine LeO.bind ?_ (fun _ => ?_))
   | exact ih0 _ _ _ _ _
   | exact ih1 _ _ _ _ _ _ _ _ _ _
   | exact ih2 _ _ _ _ _ _ _
   | exact seen_Add.mono _ _ _ _
   | exact seen_Has.mono _ _ _ _
   | exact slotmeshlaw26_head.mono _
   | exact slotmeshlaw26_intervals.mono _ _
   | exact slotmeshref26_Few.mono _ _
   | exact slotmeshref26_Valid.mono _ _
   | exact LeO.none _
   | refine LeO.ite ?_ ?_
   | refine LeO.bind ?_ (fun _ => ?_)
  ·intro y0 y1 y2 y3 y4 y5 y6 y7 y8 y9
   unfold slotmeshlaw26_SeenRoom.l0
   repeat' first
   | (with_reducible exact ih0 _ _ _ _ _)
   | (with_reducible exact ih1 _ _ _ _ _ _ _ _ _ _)
   | (with_reducible exact ih2 _ _ _ _ _ _ _)
   | (with_reducible exact seen_Add.mono _ _ _ _)
   | (with_reducible exact seen_Has.mono _ _ _ _)
   | (with_reducible exact slotmeshlaw26_head.mono _)
   | (with_reducible exact slotmeshlaw26_intervals.mono _ _)
   | (with_reducible exact slotmeshref26_Few.mono _ _)
   | (with_reducible exact slotmeshref26_Valid.mono _ _)
   | (with_reducible exact LeO.refl _)
   | (with_reducible exact LeO.none _)
   | (with_reducible refine LeO.ite ?_ ?_)
   | (with_reducible refine LeO.bind ?_ (fun _ => ?_))
   | exact ih0 _ _ _ _ _
   | exact ih1 _ _ _ _ _ _ _ _ _ _
   | exact ih2 _ _ _ _ _ _ _
   | exact seen_Add.mono _ _ _ _
   | exact seen_Has.mono _ _ _ _
   | exact slotmeshlaw26_head.mono _
   | exact slotmeshlaw26_intervals.mono _ _
   | exact slotmeshref26_Few.mono _ _
   | exact slotmeshref26_Valid.mono _ _
   | exact LeO.none _
   | refine LeO.ite ?_ ?_
   | refine LeO.bind ?_ (fun _ => ?_)
  ·intro y0 y1 y2 y3 y4 y5 y6
   unfold slotmeshlaw26_SeenRoom.j2
   repeat' first
   | (with_reducible exact ih0 _ _ _ _ _)
   | (with_reducible exact ih1 _ _ _ _ _ _ _ _ _ _)
   | (with_reducible exact ih2 _ _ _ _ _ _ _)
   | (with_reducible exact seen_Add.mono _ _ _ _)
   | (with_reducible exact seen_Has.mono _ _ _ _)
   | (with_reducible exact slotmeshlaw26_head.mono _)
   | (with_reducible exact slotmeshlaw26_intervals.mono _ _)
   | (with_reducible exact slotmeshref26_Few.mono _ _)
   | (with_reducible exact slotmeshref26_Valid.mono _ _)
   | (with_reducible exact LeO.refl _)
   | (with_reducible exact LeO.none _)
   | (with_reducible refine LeO.ite ?_ ?_)
   | (with_reducible refine LeO.bind ?_ (fun _ => ?_))
   | exact ih0 _ _ _ _ _
   | exact ih1 _ _ _ _ _ _ _ _ _ _
   | exact ih2 _ _ _ _ _ _ _
   | exact seen_Add.mono _ _ _ _
   | exact seen_Has.mono _ _ _ _
   | exact slotmeshlaw26_head.mono _
   | exact slotmeshlaw26_intervals.mono _ _
   | exact slotmeshref26_Few.mono _ _
   | exact slotmeshref26_Valid.mono _ _
   | exact LeO.none _
   | refine LeO.ite ?_ ?_
   | refine LeO.bind ?_ (fun _ => ?_)
theorem slotmeshlaw26_SeenRoom.mono : ∀ a0 a1 a2 k, LeO (slotmeshlaw26_SeenRoom.f k a0 a1 a2) (slotmeshlaw26_SeenRoom.f (k + 1) a0 a1 a2) := by
 intro a0 a1 a2 k
 obtain ⟨ih0, ih1, ih2⟩ := slotmeshlaw26_SeenRoom.mono_l k
 unfold slotmeshlaw26_SeenRoom.f
 repeat' first
   | (with_reducible exact ih0 _ _ _ _ _)
   | (with_reducible exact ih1 _ _ _ _ _ _ _ _ _ _)
   | (with_reducible exact ih2 _ _ _ _ _ _ _)
   | (with_reducible exact seen_Add.mono _ _ _ _)
   | (with_reducible exact seen_Has.mono _ _ _ _)
   | (with_reducible exact slotmeshlaw26_head.mono _)
   | (with_reducible exact slotmeshlaw26_intervals.mono _ _)
   | (with_reducible exact slotmeshref26_Few.mono _ _)
   | (with_reducible exact slotmeshref26_Valid.mono _ _)
   | (with_reducible exact LeO.refl _)
   | (with_reducible exact LeO.none _)
   | (with_reducible refine LeO.ite ?_ ?_)
   | (with_reducible refine LeO.bind ?_ (fun _ => ?_))
   | exact ih0 _ _ _ _ _
   | exact ih1 _ _ _ _ _ _ _ _ _ _
   | exact ih2 _ _ _ _ _ _ _
   | exact seen_Add.mono _ _ _ _
   | exact seen_Has.mono _ _ _ _
   | exact slotmeshlaw26_head.mono _
   | exact slotmeshlaw26_intervals.mono _ _
   | exact slotmeshref26_Few.mono _ _
   | exact slotmeshref26_Valid.mono _ _
   | exact LeO.none _
   | refine LeO.ite ?_ ?_
   | refine LeO.bind ?_ (fun _ => ?_)
set_option maxHeartbeats 8000000 in
set_option maxRecDepth 100000 in
theorem slotmeshlaw26_SeenRoom.calls (k : Nat) (A0 : Option Addr) (c0 : Nat) (l0 : List (S45)) (a1 : Int) (a2 : Int) (r : Bool) (w : World) (hr0 : Kd.C k45 w A0 l0.length l0) (hc0 : l0.length ≤ c0) (h : slotmeshlaw26_SeenRoom.f k l0 a1 a2 = some r) :
  Calls Try.prog 6 #[.slice A0 l0.length c0, .int .u8 a1, .int .u32 a2] w fun e w' => e = .returned (.bool r) ∧ Below w.heap.size w w' := by
 have HR0 := Aside0.mk hr0
 have HC0 := Aside0.mk hc0
 clear hr0 hc0
 have HB := Aside0.mk (Below.refl w.heap.size w)
 have H : ((slotmeshlaw26_head.f k).bind fun t323 => ((slotmeshref26_Few.f k l0).bind fun t324 => (if t324 = true then ((slotmeshref26_Valid.f k l0).bind fun t325 => (slotmeshlaw26_SeenRoom.j0 k l0 a1 a2 t323 (!t325))) else (slotmeshlaw26_SeenRoom.j0 k l0 a1 a2 t323 true)))) = some r := h
 clear h
 replace H := Option.bind_eq_some_iff.mp H
 obtain ⟨t323, A40, H⟩ := H
 replace H : ((slotmeshref26_Few.f k l0).bind fun t324 => (if t324 = true then ((slotmeshref26_Valid.f k l0).bind fun t325 => (slotmeshlaw26_SeenRoom.j0 k l0 a1 a2 t323 (!t325))) else (slotmeshlaw26_SeenRoom.j0 k l0 a1 a2 t323 true))) = some r := H
 have A4 := Aside0.mk A40
 clear A40
 have HC5 := Aside0.mk H
 clear H
 go_enter Try.func6, Try.ntmps6
 go_upto_region 2 with (first | ((with_reducible refine gate_callee (f := 9) rfl ?_); refine goesL_ (some 18) rfl rfl Try.func9 (by kernel_rfl) rfl #[] rfl (by (try simp only [List.map_toArray, List.map_cons, List.map_nil]); first | done | rfl | (simp only [List.length_drop, List.length_take]; rfl)) ?_; (with_reducible refine (slotmeshlaw26_head.calls k  t323 _ A4.out).mono ?_); rintro e w6 ⟨rfl, hb⟩; refine ⟨_, rfl, ?_⟩; have n0_ := Aside0.mk (below_step (by repeat (first | (with_reducible first | exact HB.out | apply below_alloc | apply pw_below_drewN | apply below_drew1) | exact HB.out)) hb); clear HB; have HB := n0_; clear n0_; (try clear hb); (try clear hb2); (try clear hk); (try clear hi)))
 (try simp only [Act.put, List.setIfInBounds_toArray, List.set_cons_zero, List.set_cons_succ])
 go_cut [26] (fun v26 wc => ∃ (kq : Nat) (x26_4 : Bool), v26 = .bool x26_4 ∧ Aside0 (slotmeshlaw26_SeenRoom.j0 kq l0 a1 a2 t323 x26_4 = some r) ∧ Aside0 (kq ≤ k) ∧ Aside0 (Below w.heap.size w wc))
 case first =>
  have H := HC5.out
  clear HC5
  replace H := Option.bind_eq_some_iff.mp H
  obtain ⟨t324, A70, H⟩ := H
  replace H : (if t324 = true then ((slotmeshref26_Valid.f k l0).bind fun t325 => (slotmeshlaw26_SeenRoom.j0 k l0 a1 a2 t323 (!t325))) else (slotmeshlaw26_SeenRoom.j0 k l0 a1 a2 t323 true)) = some r := H
  have A7 := Aside0.mk A70
  clear A70
  by_cases c8 : t324 = true
  ·subst c8
   have H1 : ((slotmeshref26_Valid.f k l0).bind fun t325 => (slotmeshlaw26_SeenRoom.j0 k l0 a1 a2 t323 (!t325))) = some r := by rw [if_pos rfl] at H; exact H
   clear H
   have H := H1
   clear H1
   replace H := Option.bind_eq_some_iff.mp H
   obtain ⟨t325, A90, H⟩ := H
   replace H : (slotmeshlaw26_SeenRoom.j0 k l0 a1 a2 t323 (!t325)) = some r := H
   have A9 := Aside0.mk A90
   clear A90
   have H' := Aside0.mk H
   clear H
   go_wp2_with (first | ((with_reducible refine gate_callee (f := 10) rfl ?_); refine goesL_ (some 20) rfl rfl Try.func10 (by kernel_rfl) rfl #[.slice A0 l0.length c0] rfl (by (try simp only [List.map_toArray, List.map_cons, List.map_nil]); first | done | rfl | (simp only [List.length_drop, List.length_take]; rfl)) ?_; (with_reducible refine (slotmeshref26_Few.calls k _ _ l0 true _ ?side1 ?side2 A7.out).mono ?_); (case side1 => repeat (first | exact (Kd.C_below HR0.out HB.out) | (with_reducible refine Kd.C_alloc ?_ _) | (with_reducible refine Kd.C_drewN ?_ _) | (with_reducible refine Kd.C_drew ?_))); (case side2 => exact HC0.out); rintro e w' ⟨rfl, ⟨nd, rfl⟩⟩; refine ⟨_, rfl, ?_⟩) | (go_at_call 14; (with_reducible refine (slotmeshref26_Valid.calls k _ _ l0 t325 _ ?side1 ?side2 A9.out).mono ?_); (case side1 => repeat (first | exact (Kd.C_below HR0.out (by repeat (first | (with_reducible first | exact HB.out | apply below_alloc | apply pw_below_drewN | apply below_drew1) | exact HB.out))) | (with_reducible refine Kd.C_alloc ?_ _) | (with_reducible refine Kd.C_drewN ?_ _) | (with_reducible refine Kd.C_drew ?_))); (case side2 => exact HC0.out); rintro e w10 ⟨rfl, hb⟩; have n0_ := Aside0.mk (below_step (by repeat (first | (with_reducible first | exact HB.out | apply below_alloc | apply pw_below_drewN | apply below_drew1) | exact HB.out)) hb); clear HB; have HB := n0_; clear n0_; (try clear hb); (try clear hb2); (try clear hk); (try clear hi)))
   go_meet
   case rel => exact ⟨_, (!t325), (by first | rfl | (simp; done) | (simp [*]; done)), H', ⟨by first | omega | exact Nat.le_refl _⟩, ⟨by repeat (first | (with_reducible first | exact HB.out | apply below_alloc | apply pw_below_drewN | apply below_drew1) | exact HB.out)⟩⟩
  ·replace c8 := Bool.eq_false_iff.mpr c8
   subst c8
   have H1 : (slotmeshlaw26_SeenRoom.j0 k l0 a1 a2 t323 true) = some r := by rw [if_neg (show ¬ (false = true) by decide)] at H; exact H
   clear H
   have H := H1
   clear H1
   have H' := Aside0.mk H
   clear H
   go_wp2_with (first | ((with_reducible refine gate_callee (f := 10) rfl ?_); refine goesL_ (some 20) rfl rfl Try.func10 (by kernel_rfl) rfl #[.slice A0 l0.length c0] rfl (by (try simp only [List.map_toArray, List.map_cons, List.map_nil]); first | done | rfl | (simp only [List.length_drop, List.length_take]; rfl)) ?_; (with_reducible refine (slotmeshref26_Few.calls k _ _ l0 false _ ?side1 ?side2 A7.out).mono ?_); (case side1 => repeat (first | exact (Kd.C_below HR0.out HB.out) | (with_reducible refine Kd.C_alloc ?_ _) | (with_reducible refine Kd.C_drewN ?_ _) | (with_reducible refine Kd.C_drew ?_))); (case side2 => exact HC0.out); rintro e w' ⟨rfl, ⟨nd, rfl⟩⟩; refine ⟨_, rfl, ?_⟩))
   go_meet
   case rel => exact ⟨_, (true), (by first | rfl | (simp; done) | (simp [*]; done)), H', ⟨by first | omega | exact Nat.le_refl _⟩, ⟨by repeat (first | (with_reducible first | exact HB.out | apply below_alloc | apply pw_below_drewN | apply below_drew1) | exact HB.out)⟩⟩
 case rest =>
  clear HC5
  try clear c1
  try clear p2
  try clear c6
  try clear c8
  try clear c9
  try clear c10
  obtain ⟨kq, x26_4, rfl, HA, HJ4, HB⟩ := hcut
  cases kq with
  | zero => exact absurd HA.out (by simp [slotmeshlaw26_SeenRoom.j0])
  | succ kj4 =>
   have H := HA.out
   clear HA
   simp only [slotmeshlaw26_SeenRoom.j0] at H
   by_cases c11 : x26_4 = true
   ·subst c11
    have H1 : (some t323) = some r := by rw [if_pos rfl] at H; exact H
    clear H
    have H := H1
    clear H1
    obtain rfl := Option.some.inj H
    go_wp2
    go_ret
    exact ⟨by first | rfl | (simp [errW_none, errW_some] <;> rfl) | (simp [*, errW_none, errW_some] <;> rfl), by repeat (first | (with_reducible first | exact HB.out | apply below_alloc | apply pw_below_drewN | apply below_drew1) | exact HB.out)⟩
   ·replace c11 := Bool.eq_false_iff.mpr c11
    subst c11
    have H1 : ((seen_Add.f kj4 l0 (Int.tmod (wrap64 (a1)) 60) (wrap64 (1 + (Int.tmod (wrap64 (a2)) 1000000000)))).bind fun bt326 => ((some (([wrap64 ((wrap64 (1 + (Int.tmod (wrap64 (a2)) 1000000000))) - 1), wrap64 ((wrap64 (1 + (Int.tmod (wrap64 (a2)) 1000000000))) + 1)] : List Int) : List Int)).bind fun y331 => (slotmeshlaw26_SeenRoom.l0 kj4 l0 t323 (Int.tmod (wrap64 (a1)) 60) (wrap64 (1 + (Int.tmod (wrap64 (a2)) 1000000000))) bt326.1 bt326.2.2 0 y331 (y331.length : Int) 0))) = some r := by rw [if_neg (show ¬ (false = true) by decide)] at H; exact H
    clear H
    have H := H1
    clear H1
    replace H := Option.bind_eq_some_iff.mp H
    obtain ⟨⟨t326, t329, t330⟩, A120, H⟩ := H
    replace H : ((some (([wrap64 ((wrap64 (1 + (Int.tmod (wrap64 (a2)) 1000000000))) - 1), wrap64 ((wrap64 (1 + (Int.tmod (wrap64 (a2)) 1000000000))) + 1)] : List Int) : List Int)).bind fun y331 => (slotmeshlaw26_SeenRoom.l0 kj4 l0 t323 (Int.tmod (wrap64 (a1)) 60) (wrap64 (1 + (Int.tmod (wrap64 (a2)) 1000000000))) t326 t330 0 y331 (y331.length : Int) 0)) = some r := H
    have A12 := Aside0.mk A120
    clear A120
    obtain ⟨y331, hy331⟩ : ∃ y_ : List Int, y_ = (([wrap64 ((wrap64 (1 + (Int.tmod (wrap64 (a2)) 1000000000))) - 1), wrap64 ((wrap64 (1 + (Int.tmod (wrap64 (a2)) 1000000000))) + 1)] : List Int)) := ⟨_, rfl⟩
    replace H : (slotmeshlaw26_SeenRoom.l0 kj4 l0 t323 (Int.tmod (wrap64 (a1)) 60) (wrap64 (1 + (Int.tmod (wrap64 (a2)) 1000000000))) t326 t330 0 y331 (y331.length : Int) 0) = some r := by first | (rw [hy331]; with_reducible exact H) | (have H2_ := (Option.bind_some _ _).symm.trans H; rw [hy331]; with_reducible exact H2_) | (have H2_ := (Option.bind_some _ _).symm.trans H; with_reducible exact H2_) | with_reducible exact H | (rw [hy331]; exact H) | exact H
    have Ny331 := Aside0.mk hy331
    clear hy331
    have H' := Aside0.mk H
    clear H
    go_wp2_with (first | ((with_reducible refine gate_callee (f := 11) rfl ?_); refine goesL_ (some 39) rfl rfl Try.func11 (by kernel_rfl) rfl #[.slice A0 l0.length c0, .int .i64 (Int.tmod (wrap64 (a1)) 60), .int .i64 (wrap64 (1 + (Int.tmod (wrap64 (a2)) 1000000000)))] rfl (by (try simp only [List.map_toArray, List.map_cons, List.map_nil]); first | done | rfl | (simp only [List.length_drop, List.length_take]; rfl)) ?_; (with_reducible refine (seen_Add.calls kj4 (fun k_ => k_ < w.heap.size) _ _ l0 (Int.tmod (wrap64 (a1)) 60) (wrap64 (1 + (Int.tmod (wrap64 (a2)) 1000000000))) t326 t329 t330 _ ?side1 A12.out).mono ?_); (case side1 => exact Kd.V_mk HC0.out (Kd.F_below (Kd.C_F k45_heap HR0.out) (by repeat (first | (with_reducible first | exact HB.out | apply below_alloc | apply pw_below_drewN | apply below_drew1) | exact HB.out)))); rintro e w13 ⟨v327, rfl, ho0, hb⟩; refine ⟨_, rfl, ?_⟩; have n0_ := Aside0.mk (Kd.V_lower (Kd.V_mono (ok' := fun k_ => True) ho0 (fun k_ hk_ => trivial)) (below_size (by repeat (first | (with_reducible first | exact HB.out | apply below_alloc | apply pw_below_drewN | apply below_drew1) | exact HB.out)))); have n1_ := Aside0.mk (below_step (by repeat (first | (with_reducible first | exact HB.out | apply below_alloc | apply pw_below_drewN | apply below_drew1) | exact HB.out)) hb); clear HB; have HO328 := n0_; have HB := n1_; clear n0_ n1_; (try clear hb); (try clear hb2); (try clear hk); (try clear hi); (try clear ho0)) | ((with_reducible refine gate_dst (N := 47) rfl ?_); refine Kd.R_lit (Kd.int .i64) _ 3 ?hg (N := 47) ?hd (xs := ([wrap64 ((wrap64 (1 + (Int.tmod (wrap64 (a2)) 1000000000))) - 1), wrap64 ((wrap64 (1 + (Int.tmod (wrap64 (a2)) 1000000000))) + 1)] : List Int)) (inner := [.int .i64 (wrap64 ((wrap64 (1 + (Int.tmod (wrap64 (a2)) 1000000000))) - 1)), .int .i64 (wrap64 ((wrap64 (1 + (Int.tmod (wrap64 (a2)) 1000000000))) + 1))]) (ok := fun _ => True) (okp := fun _ => True) ?hr ?hp (fun _ hk => hk) trivial (Below.refl _ _) (Nat.le_refl _) (by simp) ?_; (case hd => rfl); (case hg => rfl); (case hr => first | (go_simp; done) | (go_simp; rfl)); (case hp => exact (Reps.one (show Kd.M (Kd.int .i64) _ _ _ (wrap64 ((wrap64 (1 + (Int.tmod (wrap64 (a2)) 1000000000))) - 1)) [.int .i64 (wrap64 ((wrap64 (1 + (Int.tmod (wrap64 (a2)) 1000000000))) - 1))] from rfl) (Reps.one (show Kd.M (Kd.int .i64) _ _ _ (wrap64 ((wrap64 (1 + (Int.tmod (wrap64 (a2)) 1000000000))) + 1)) [.int .i64 (wrap64 ((wrap64 (1 + (Int.tmod (wrap64 (a2)) 1000000000))) + 1))] from rfl) (Reps.none _ _)))); intro v332 w14 ho15 hb hg_ hnew_; clear hg_ hnew_; (first | rw [← Ny331.out] at ho15 | (simp only [Int.reduceToNat] at ho15; rw [← Ny331.out] at ho15)); have n0_ := Aside0.mk (Kd.V_elder' (by (with_reducible repeat (first | apply Kd.V_alloc | apply Kd.V_drewN | apply Kd.V_drew)); exact HO328.out) (Kd.R_base ho15) hb); have n1_ := Aside0.mk (Kd.R_lower ho15 (below_size (by repeat (first | (with_reducible first | exact HB.out | apply below_alloc | apply pw_below_drewN | apply below_drew1) | exact HB.out)))); have n2_ := Aside0.mk (below_step (by repeat (first | (with_reducible first | exact HB.out | apply below_alloc | apply pw_below_drewN | apply below_drew1) | exact HB.out)) hb); clear HO328; clear HB; have HO328 := n0_; have HO333 := n1_; have HB := n2_; clear n0_ n1_ n2_; clear hb ho15; obtain ⟨Ao16, co16, eo16⟩ := Kd.R_slice HO333.out; subst eo16))
    go_loopg [13, 49] kj4 (fun kq v13 v49 w' => ∃ (x13_2 : Int) (x49_2 : Int), v13 = .int .i64 x13_2 ∧ v49 = .int .i64 x49_2 ∧ Aside0 (slotmeshlaw26_SeenRoom.l0 kq l0 t323 (Int.tmod (wrap64 (a1)) 60) (wrap64 (1 + (Int.tmod (wrap64 (a2)) 1000000000))) t326 t330 x13_2 y331 (y331.length : Int) x49_2 = some r) ∧ Aside0 (kq ≤ kj4) ∧ Aside0 (Kd.V k45 45 w' w.heap.size (fun k_ => some k_ ≠ ((.slice Ao16 y331.length co16) : Value).ownBlock) v327 t326) ∧ Aside0 (Kd.R (Kd.int .i64) 3 w' w.heap.size (fun _ => True) (.slice Ao16 y331.length co16) y331) ∧ Aside0 (Below w.heap.size w w'))
    case atStart => exact ⟨(0), (0), (by first | rfl | (simp; done) | (simp [*]; done)), (by first | rfl | (simp; done) | (simp [*]; done)), H', ⟨Nat.le_refl _⟩, ⟨by (with_reducible repeat (first | apply Kd.V_alloc | apply Kd.V_drewN | apply Kd.V_drew)); exact Kd.V_mono HO328.out (fun _ hk => hk.2)⟩, ⟨by (with_reducible repeat (first | apply Kd.R_alloc | apply Kd.R_drewN | apply Kd.R_drew)); exact HO333.out⟩, ⟨by repeat (first | (with_reducible first | exact HB.out | apply below_alloc | apply pw_below_drewN | apply below_drew1) | exact HB.out)⟩⟩
    case round =>
     clear H'
     try clear c1
     try clear p2
     try clear c6
     try clear p6
     try clear c8
     try clear c9
     try clear c10
     try clear c11
     try clear p2
     obtain ⟨x13_2, x49_2, rfl, rfl, HA, HK2, HO_10, HO_47, HB⟩ := hrel
     cases gk with
     | zero => exact absurd HA.out (by simp [slotmeshlaw26_SeenRoom.l0])
     | succ k2 =>
      have H := HA.out
      clear HA
      simp only [slotmeshlaw26_SeenRoom.l0] at H
      by_cases c17 : x49_2 < (y331.length : Int)
      ·rw [if_pos c17] at H
       have c17b0 : decide (x49_2 < (y331.length : Int)) = true := decide_eq_true c17
       clear c17
       by_cases c18 : 0 ≤ x49_2
       ·rw [if_pos c18] at H
        have c18b0 : decide (0 ≤ x49_2) = true := decide_eq_true c18
        clear c18
        by_cases c19 : x49_2 < (y331.length : Int)
        ·rw [if_pos c19] at H
         have c19b0 : decide (x49_2 < (y331.length : Int)) = true := decide_eq_true c19
         clear c19
         replace H := Option.bind_eq_some_iff.mp H
         obtain ⟨t335, A200, H⟩ := H
         replace H : (if t335 = true then (slotmeshlaw26_SeenRoom.l0 k2 l0 t323 (Int.tmod (wrap64 (a1)) 60) (wrap64 (1 + (Int.tmod (wrap64 (a2)) 1000000000))) t326 t330 (wrap64 (x13_2 + 1)) y331 (y331.length : Int) (wrap64 (x49_2 + 1))) else (slotmeshlaw26_SeenRoom.l0 k2 l0 t323 (Int.tmod (wrap64 (a1)) 60) (wrap64 (1 + (Int.tmod (wrap64 (a2)) 1000000000))) t326 t330 x13_2 y331 (y331.length : Int) (wrap64 (x49_2 + 1)))) = some r := H
         have A20 := Aside0.mk A200
         clear A200
         by_cases c21 : t335 = true
         ·subst c21
          have H1 : (slotmeshlaw26_SeenRoom.l0 k2 l0 t323 (Int.tmod (wrap64 (a1)) 60) (wrap64 (1 + (Int.tmod (wrap64 (a2)) 1000000000))) t326 t330 (wrap64 (x13_2 + 1)) y331 (y331.length : Int) (wrap64 (x49_2 + 1))) = some r := by rw [if_pos rfl] at H; exact H
          clear H
          have H := H1
          clear H1
          have H' := Aside0.mk H
          clear H
          have p334 : 0 ≤ (x49_2 : Int) := of_decide_eq_true (by first | (with_reducible assumption) | assumption)
          have q334 : x49_2 < (y331.length : Int) := of_decide_eq_true (by first | (with_reducible assumption) | assumption)
          obtain ⟨ad334, e334, hx334_0⟩ := Kd.at_int (Kd.R_reads' HO_47.out).2.2 x49_2 p334 q334
          cases e334
          replace p334 := eq_true p334
          replace q334 := eq_true q334
          go_wp2_with (first | ((with_reducible refine gate_callee (f := 15) rfl ?_); refine goesL_ (some 56) rfl rfl Try.func15 (by kernel_rfl) rfl #[.slice A0 l0.length c0, .int .i64 (Int.tmod (wrap64 (a1)) 60), .int .i64 (rd y331 x49_2)] rfl (by (try simp only [List.map_toArray, List.map_cons, List.map_nil]); first | done | rfl | (simp only [List.length_drop, List.length_take]; rfl)) ?_; (with_reducible refine (seen_Has.calls k2 _ _ l0 (Int.tmod (wrap64 (a1)) 60) (rd y331 x49_2) true _ ?side1 ?side2 A20.out).mono ?_); (case side1 => repeat (first | exact (Kd.C_below HR0.out HB.out) | (with_reducible refine Kd.C_alloc ?_ _) | (with_reducible refine Kd.C_drewN ?_ _) | (with_reducible refine Kd.C_drew ?_))); (case side2 => exact HC0.out); rintro e w22 ⟨rfl, hb⟩; refine ⟨_, rfl, ?_⟩; have n0_ := Aside0.mk (Kd.V_below (by (with_reducible repeat (first | apply Kd.V_alloc | apply Kd.V_drewN | apply Kd.V_drew)); exact HO_10.out) hb); have n1_ := Aside0.mk (Kd.R_below (by (with_reducible repeat (first | apply Kd.R_alloc | apply Kd.R_drewN | apply Kd.R_drew)); exact HO_47.out) hb); have n2_ := Aside0.mk (below_step (by repeat (first | (with_reducible first | exact HB.out | apply below_alloc | apply pw_below_drewN | apply below_drew1) | exact HB.out)) hb); clear HO_10; clear HO_47; clear HB; have HO_10 := n0_; have HO_47 := n1_; have HB := n2_; clear n0_ n1_ n2_; (try clear hb); (try clear hb2); (try clear hk); (try clear hi)))
          go_roundg k2
          case measure => have := HJ4.out; have := HK2.out; omega
          case rel => exact ⟨(wrap64 (x13_2 + 1)), (wrap64 (x49_2 + 1)), (by first | rfl | (simp; done) | (simp [*]; done)), (by first | rfl | (simp; done) | (simp [*]; done)), H', ⟨by have := HJ4.out; have := HK2.out; omega⟩, ⟨by (with_reducible repeat (first | apply Kd.V_alloc | apply Kd.V_drewN | apply Kd.V_drew)); exact HO_10.out⟩, ⟨by (with_reducible repeat (first | apply Kd.R_alloc | apply Kd.R_drewN | apply Kd.R_drew)); exact HO_47.out⟩, ⟨by repeat (first | (with_reducible first | exact HB.out | apply below_alloc | apply pw_below_drewN | apply below_drew1) | exact HB.out)⟩⟩
         ·replace c21 := Bool.eq_false_iff.mpr c21
          subst c21
          have H1 : (slotmeshlaw26_SeenRoom.l0 k2 l0 t323 (Int.tmod (wrap64 (a1)) 60) (wrap64 (1 + (Int.tmod (wrap64 (a2)) 1000000000))) t326 t330 x13_2 y331 (y331.length : Int) (wrap64 (x49_2 + 1))) = some r := by rw [if_neg (show ¬ (false = true) by decide)] at H; exact H
          clear H
          have H := H1
          clear H1
          have H' := Aside0.mk H
          clear H
          have p334 : 0 ≤ (x49_2 : Int) := of_decide_eq_true (by first | (with_reducible assumption) | assumption)
          have q334 : x49_2 < (y331.length : Int) := of_decide_eq_true (by first | (with_reducible assumption) | assumption)
          obtain ⟨ad334, e334, hx334_0⟩ := Kd.at_int (Kd.R_reads' HO_47.out).2.2 x49_2 p334 q334
          cases e334
          replace p334 := eq_true p334
          replace q334 := eq_true q334
          go_wp2_with (first | ((with_reducible refine gate_callee (f := 15) rfl ?_); refine goesL_ (some 56) rfl rfl Try.func15 (by kernel_rfl) rfl #[.slice A0 l0.length c0, .int .i64 (Int.tmod (wrap64 (a1)) 60), .int .i64 (rd y331 x49_2)] rfl (by (try simp only [List.map_toArray, List.map_cons, List.map_nil]); first | done | rfl | (simp only [List.length_drop, List.length_take]; rfl)) ?_; (with_reducible refine (seen_Has.calls k2 _ _ l0 (Int.tmod (wrap64 (a1)) 60) (rd y331 x49_2) false _ ?side1 ?side2 A20.out).mono ?_); (case side1 => repeat (first | exact (Kd.C_below HR0.out HB.out) | (with_reducible refine Kd.C_alloc ?_ _) | (with_reducible refine Kd.C_drewN ?_ _) | (with_reducible refine Kd.C_drew ?_))); (case side2 => exact HC0.out); rintro e w23 ⟨rfl, hb⟩; refine ⟨_, rfl, ?_⟩; have n0_ := Aside0.mk (Kd.V_below (by (with_reducible repeat (first | apply Kd.V_alloc | apply Kd.V_drewN | apply Kd.V_drew)); exact HO_10.out) hb); have n1_ := Aside0.mk (Kd.R_below (by (with_reducible repeat (first | apply Kd.R_alloc | apply Kd.R_drewN | apply Kd.R_drew)); exact HO_47.out) hb); have n2_ := Aside0.mk (below_step (by repeat (first | (with_reducible first | exact HB.out | apply below_alloc | apply pw_below_drewN | apply below_drew1) | exact HB.out)) hb); clear HO_10; clear HO_47; clear HB; have HO_10 := n0_; have HO_47 := n1_; have HB := n2_; clear n0_ n1_ n2_; (try clear hb); (try clear hb2); (try clear hk); (try clear hi)))
          go_roundg k2
          case measure => have := HJ4.out; have := HK2.out; omega
          case rel => exact ⟨(x13_2), (wrap64 (x49_2 + 1)), (by first | rfl | (simp; done) | (simp [*]; done)), (by first | rfl | (simp; done) | (simp [*]; done)), H', ⟨by have := HJ4.out; have := HK2.out; omega⟩, ⟨by (with_reducible repeat (first | apply Kd.V_alloc | apply Kd.V_drewN | apply Kd.V_drew)); exact HO_10.out⟩, ⟨by (with_reducible repeat (first | apply Kd.R_alloc | apply Kd.R_drewN | apply Kd.R_drew)); exact HO_47.out⟩, ⟨by repeat (first | (with_reducible first | exact HB.out | apply below_alloc | apply pw_below_drewN | apply below_drew1) | exact HB.out)⟩⟩
        ·rw [if_neg c19] at H
         exact absurd H (by simp)
       ·rw [if_neg c18] at H
        exact absurd H (by simp)
      ·rw [if_neg c17] at H
       have c17b0 : decide (x49_2 < (y331.length : Int)) = false := decide_eq_false c17
       clear c17
       replace H := Option.bind_eq_some_iff.mp H
       obtain ⟨t336, A240, H⟩ := H
       replace H : ((slotmeshlaw26_intervals.f k2 l0).bind fun t337 => (if t337 = 64 then (if t336 = true then (slotmeshlaw26_SeenRoom.j2 k2 l0 t323 t326 t330 x13_2 t336 false) else (slotmeshlaw26_SeenRoom.j2 k2 l0 t323 t326 t330 x13_2 t336 (x13_2 == 0))) else (slotmeshlaw26_SeenRoom.j2 k2 l0 t323 t326 t330 x13_2 t336 false))) = some r := H
       have A24 := Aside0.mk A240
       clear A240
       have HC25 := Aside0.mk H
       clear H
       go_upto_region 14 with (first | ((with_reducible refine gate_callee (f := 15) rfl ?_); refine goesL_ (some 63) rfl rfl Try.func15 (by kernel_rfl) rfl #[.slice A0 l0.length c0, .int .i64 (Int.tmod (wrap64 (a1)) 60), .int .i64 (wrap64 (1 + (Int.tmod (wrap64 (a2)) 1000000000)))] rfl (by (try simp only [List.map_toArray, List.map_cons, List.map_nil]); first | done | rfl | (simp only [List.length_drop, List.length_take]; rfl)) ?_; (with_reducible refine (seen_Has.calls k2 _ _ l0 (Int.tmod (wrap64 (a1)) 60) (wrap64 (1 + (Int.tmod (wrap64 (a2)) 1000000000))) t336 _ ?side1 ?side2 A24.out).mono ?_); (case side1 => repeat (first | exact (Kd.C_below HR0.out HB.out) | (with_reducible refine Kd.C_alloc ?_ _) | (with_reducible refine Kd.C_drewN ?_ _) | (with_reducible refine Kd.C_drew ?_))); (case side2 => exact HC0.out); rintro e w26 ⟨rfl, hb⟩; refine ⟨_, rfl, ?_⟩; have n0_ := Aside0.mk (Kd.V_below (by (with_reducible repeat (first | apply Kd.V_alloc | apply Kd.V_drewN | apply Kd.V_drew)); exact HO_10.out) hb); have n1_ := Aside0.mk (Kd.R_below (by (with_reducible repeat (first | apply Kd.R_alloc | apply Kd.R_drewN | apply Kd.R_drew)); exact HO_47.out) hb); have n2_ := Aside0.mk (below_step (by repeat (first | (with_reducible first | exact HB.out | apply below_alloc | apply pw_below_drewN | apply below_drew1) | exact HB.out)) hb); clear HO_10; clear HO_47; clear HB; have HO_10 := n0_; have HO_47 := n1_; have HB := n2_; clear n0_ n1_ n2_; (try clear hb); (try clear hb2); (try clear hk); (try clear hi)))
       (try simp only [Act.put, List.setIfInBounds_toArray, List.set_cons_zero, List.set_cons_succ])
       go_cut [74] (fun v74 wc => ∃ (kq : Nat) (x74_24 : Bool), v74 = .bool x74_24 ∧ Aside0 (slotmeshlaw26_SeenRoom.j2 kq l0 t323 t326 t330 x13_2 t336 x74_24 = some r) ∧ Aside0 (kq ≤ k2) ∧ Aside0 (Kd.V k45 45 wc w.heap.size (fun _ => True) v327 t326) ∧ Aside0 (Below w.heap.size w wc))
       case first =>
        have H := HC25.out
        clear HC25
        replace H := Option.bind_eq_some_iff.mp H
        obtain ⟨t337, A270, H⟩ := H
        replace H : (if t337 = 64 then (if t336 = true then (slotmeshlaw26_SeenRoom.j2 k2 l0 t323 t326 t330 x13_2 t336 false) else (slotmeshlaw26_SeenRoom.j2 k2 l0 t323 t326 t330 x13_2 t336 (x13_2 == 0))) else (slotmeshlaw26_SeenRoom.j2 k2 l0 t323 t326 t330 x13_2 t336 false)) = some r := H
        have A27 := Aside0.mk A270
        clear A270
        by_cases c28 : t337 = 64
        ·rw [if_pos c28] at H
         have c28b0 : (t337 == 64) = true := beq_iff_eq.mpr c28
         have c28b1 : (t337 != 64) = false := bne_eq_false_iff_eq.mpr c28
         clear c28
         (first | rw [c28b0] | (simp only [i64_w, i32_w]; rw [c28b0]) | skip)
         by_cases c29 : t336 = true
         ·subst c29
          have H1 : (slotmeshlaw26_SeenRoom.j2 k2 l0 t323 t326 t330 x13_2 true false) = some r := by rw [if_pos rfl] at H; exact H
          clear H
          have H := H1
          clear H1
          have H' := Aside0.mk H
          clear H
          go_wp2_with (first | ((with_reducible refine gate_callee (f := 22) rfl ?_); refine goesL_ (some 65) rfl rfl Try.func22 (by kernel_rfl) rfl #[.slice A0 l0.length c0] rfl (by (try simp only [List.map_toArray, List.map_cons, List.map_nil]); first | done | rfl | (simp only [List.length_drop, List.length_take]; rfl)) ?_; (with_reducible refine (slotmeshlaw26_intervals.calls k2 _ _ l0 t337 _ ?side1 ?side2 A27.out).mono ?_); (case side1 => repeat (first | exact (Kd.C_below HR0.out HB.out) | (with_reducible refine Kd.C_alloc ?_ _) | (with_reducible refine Kd.C_drewN ?_ _) | (with_reducible refine Kd.C_drew ?_))); (case side2 => exact HC0.out); rintro e w30 ⟨rfl, hb⟩; refine ⟨_, rfl, ?_⟩; have n0_ := Aside0.mk (Kd.V_below (by (with_reducible repeat (first | apply Kd.V_alloc | apply Kd.V_drewN | apply Kd.V_drew)); exact HO_10.out) hb); have n1_ := Aside0.mk (Kd.R_below (by (with_reducible repeat (first | apply Kd.R_alloc | apply Kd.R_drewN | apply Kd.R_drew)); exact HO_47.out) hb); have n2_ := Aside0.mk (below_step (by repeat (first | (with_reducible first | exact HB.out | apply below_alloc | apply pw_below_drewN | apply below_drew1) | exact HB.out)) hb); clear HO_10; clear HO_47; clear HB; have HO_10 := n0_; have HO_47 := n1_; have HB := n2_; clear n0_ n1_ n2_; (try clear hb); (try clear hb2); (try clear hk); (try clear hi)))
          go_meet
          case rel => exact ⟨_, (false), (by first | rfl | (simp; done) | (simp [*]; done)), H', ⟨by have := HJ4.out; have := HK2.out; first | omega | exact Nat.le_refl _⟩, ⟨by (with_reducible repeat (first | apply Kd.V_alloc | apply Kd.V_drewN | apply Kd.V_drew)); exact Kd.V_mono HO_10.out (fun _ hk => trivial)⟩, ⟨by repeat (first | (with_reducible first | exact HB.out | apply below_alloc | apply pw_below_drewN | apply below_drew1) | exact HB.out)⟩⟩
         ·replace c29 := Bool.eq_false_iff.mpr c29
          subst c29
          have H1 : (slotmeshlaw26_SeenRoom.j2 k2 l0 t323 t326 t330 x13_2 false (x13_2 == 0)) = some r := by rw [if_neg (show ¬ (false = true) by decide)] at H; exact H
          clear H
          have H := H1
          clear H1
          have H' := Aside0.mk H
          clear H
          go_wp2_with (first | ((with_reducible refine gate_callee (f := 22) rfl ?_); refine goesL_ (some 65) rfl rfl Try.func22 (by kernel_rfl) rfl #[.slice A0 l0.length c0] rfl (by (try simp only [List.map_toArray, List.map_cons, List.map_nil]); first | done | rfl | (simp only [List.length_drop, List.length_take]; rfl)) ?_; (with_reducible refine (slotmeshlaw26_intervals.calls k2 _ _ l0 t337 _ ?side1 ?side2 A27.out).mono ?_); (case side1 => repeat (first | exact (Kd.C_below HR0.out HB.out) | (with_reducible refine Kd.C_alloc ?_ _) | (with_reducible refine Kd.C_drewN ?_ _) | (with_reducible refine Kd.C_drew ?_))); (case side2 => exact HC0.out); rintro e w31 ⟨rfl, hb⟩; refine ⟨_, rfl, ?_⟩; have n0_ := Aside0.mk (Kd.V_below (by (with_reducible repeat (first | apply Kd.V_alloc | apply Kd.V_drewN | apply Kd.V_drew)); exact HO_10.out) hb); have n1_ := Aside0.mk (Kd.R_below (by (with_reducible repeat (first | apply Kd.R_alloc | apply Kd.R_drewN | apply Kd.R_drew)); exact HO_47.out) hb); have n2_ := Aside0.mk (below_step (by repeat (first | (with_reducible first | exact HB.out | apply below_alloc | apply pw_below_drewN | apply below_drew1) | exact HB.out)) hb); clear HO_10; clear HO_47; clear HB; have HO_10 := n0_; have HO_47 := n1_; have HB := n2_; clear n0_ n1_ n2_; (try clear hb); (try clear hb2); (try clear hk); (try clear hi)))
          go_meet
          case rel => exact ⟨_, ((x13_2 == 0)), (by first | rfl | (simp; done) | (simp [*]; done)), H', ⟨by have := HJ4.out; have := HK2.out; first | omega | exact Nat.le_refl _⟩, ⟨by (with_reducible repeat (first | apply Kd.V_alloc | apply Kd.V_drewN | apply Kd.V_drew)); exact Kd.V_mono HO_10.out (fun _ hk => trivial)⟩, ⟨by repeat (first | (with_reducible first | exact HB.out | apply below_alloc | apply pw_below_drewN | apply below_drew1) | exact HB.out)⟩⟩
        ·rw [if_neg c28] at H
         have c28b0 : (t337 == 64) = false := beq_eq_false_iff_ne.mpr c28
         have c28b1 : (t337 != 64) = true := bne_iff_ne.mpr c28
         (first | rw [c28b0] | (simp only [i64_w, i32_w]; rw [c28b0]) | skip)
         have H' := Aside0.mk H
         clear H
         go_wp2_with (first | ((with_reducible refine gate_callee (f := 22) rfl ?_); refine goesL_ (some 65) rfl rfl Try.func22 (by kernel_rfl) rfl #[.slice A0 l0.length c0] rfl (by (try simp only [List.map_toArray, List.map_cons, List.map_nil]); first | done | rfl | (simp only [List.length_drop, List.length_take]; rfl)) ?_; (with_reducible refine (slotmeshlaw26_intervals.calls k2 _ _ l0 t337 _ ?side1 ?side2 A27.out).mono ?_); (case side1 => repeat (first | exact (Kd.C_below HR0.out HB.out) | (with_reducible refine Kd.C_alloc ?_ _) | (with_reducible refine Kd.C_drewN ?_ _) | (with_reducible refine Kd.C_drew ?_))); (case side2 => exact HC0.out); rintro e w32 ⟨rfl, hb⟩; refine ⟨_, rfl, ?_⟩; have n0_ := Aside0.mk (Kd.V_below (by (with_reducible repeat (first | apply Kd.V_alloc | apply Kd.V_drewN | apply Kd.V_drew)); exact HO_10.out) hb); have n1_ := Aside0.mk (Kd.R_below (by (with_reducible repeat (first | apply Kd.R_alloc | apply Kd.R_drewN | apply Kd.R_drew)); exact HO_47.out) hb); have n2_ := Aside0.mk (below_step (by repeat (first | (with_reducible first | exact HB.out | apply below_alloc | apply pw_below_drewN | apply below_drew1) | exact HB.out)) hb); clear HO_10; clear HO_47; clear HB; have HO_10 := n0_; have HO_47 := n1_; have HB := n2_; clear n0_ n1_ n2_; (try clear hb); (try clear hb2); (try clear hk); (try clear hi)))
         go_meet
         case rel => exact ⟨_, (false), (by first | rfl | (simp; done) | (simp [*]; done)), H', ⟨by have := HJ4.out; have := HK2.out; first | omega | exact Nat.le_refl _⟩, ⟨by (with_reducible repeat (first | apply Kd.V_alloc | apply Kd.V_drewN | apply Kd.V_drew)); exact Kd.V_mono HO_10.out (fun _ hk => trivial)⟩, ⟨by repeat (first | (with_reducible first | exact HB.out | apply below_alloc | apply pw_below_drewN | apply below_drew1) | exact HB.out)⟩⟩
       case rest =>
        clear HC25
        try clear c1
        try clear c2
        try clear p2
        try clear p3
        try clear q3
        try clear hx3
        try clear c6
        try clear p6
        try clear c8
        try clear c9
        try clear c10
        try clear c11
        try clear c15
        try clear c17
        try clear c17b0
        try clear c18
        try clear c18b0
        try clear c19
        try clear c19b0
        try clear c21
        try clear c22
        try clear c28
        try clear c28b0
        try clear c28b1
        try clear c29
        try clear hx334_0
        try clear p2
        try clear p334
        try clear p6
        try clear q334
        obtain ⟨kq, x74_24, rfl, HA, HJ24, HO_10, HB⟩ := hcut
        cases kq with
        | zero => exact absurd HA.out (by simp [slotmeshlaw26_SeenRoom.j2])
        | succ kj24 =>
         have H := HA.out
         clear HA
         simp only [slotmeshlaw26_SeenRoom.j2] at H
         by_cases c33 : x74_24 = true
         ·subst c33
          have H1 : (if t323 = true then (some (t330 == 10)) else (some false)) = some r := by rw [if_pos rfl] at H; exact H
          clear H
          have H := H1
          clear H1
          by_cases c34 : t323 = true
          ·subst c34
           have H1 : (some (t330 == 10)) = some r := by rw [if_pos rfl] at H; exact H
           clear H
           have H := H1
           clear H1
           obtain rfl := Option.some.inj H
           go_wp2
           go_ret
           exact ⟨by first | rfl | (simp [errW_none, errW_some] <;> rfl) | (simp [*, errW_none, errW_some] <;> rfl), by repeat (first | (with_reducible first | exact HB.out | apply below_alloc | apply pw_below_drewN | apply below_drew1) | exact HB.out)⟩
          ·replace c34 := Bool.eq_false_iff.mpr c34
           subst c34
           have H1 : (some false) = some r := by rw [if_neg (show ¬ (false = true) by decide)] at H; exact H
           clear H
           have H := H1
           clear H1
           obtain rfl := Option.some.inj H
           go_wp2
           go_ret
           exact ⟨by first | rfl | (simp [errW_none, errW_some] <;> rfl) | (simp [*, errW_none, errW_some] <;> rfl), by repeat (first | (with_reducible first | exact HB.out | apply below_alloc | apply pw_below_drewN | apply below_drew1) | exact HB.out)⟩
         ·replace c33 := Bool.eq_false_iff.mpr c33
          subst c33
          have H1 : (if t336 = true then (if t323 = true then (if t330 = 0 then ((slotmeshlaw26_intervals.f kj24 t326).bind fun t338 => ((slotmeshlaw26_intervals.f kj24 l0).bind fun t339 => (some (t338 == (wrap64 (t339 + 0)))))) else (some false)) else (some false)) else (if t323 = true then (if t330 = 0 then ((slotmeshlaw26_intervals.f kj24 t326).bind fun t340 => ((slotmeshlaw26_intervals.f kj24 l0).bind fun t341 => (some (t340 == (wrap64 (t341 + (wrap64 (1 - x13_2)))))))) else (some false)) else (some false))) = some r := by rw [if_neg (show ¬ (false = true) by decide)] at H; exact H
          clear H
          have H := H1
          clear H1
          by_cases c35 : t336 = true
          ·subst c35
           have H1 : (if t323 = true then (if t330 = 0 then ((slotmeshlaw26_intervals.f kj24 t326).bind fun t338 => ((slotmeshlaw26_intervals.f kj24 l0).bind fun t339 => (some (t338 == (wrap64 (t339 + 0)))))) else (some false)) else (some false)) = some r := by rw [if_pos rfl] at H; exact H
           clear H
           have H := H1
           clear H1
           by_cases c36 : t323 = true
           ·subst c36
            have H1 : (if t330 = 0 then ((slotmeshlaw26_intervals.f kj24 t326).bind fun t338 => ((slotmeshlaw26_intervals.f kj24 l0).bind fun t339 => (some (t338 == (wrap64 (t339 + 0)))))) else (some false)) = some r := by rw [if_pos rfl] at H; exact H
            clear H
            have H := H1
            clear H1
            by_cases c37 : t330 = 0
            ·rw [if_pos c37] at H
             have c37b0 : (t330 == 0) = true := beq_iff_eq.mpr c37
             have c37b1 : (t330 != 0) = false := bne_eq_false_iff_eq.mpr c37
             clear c37
             replace H := Option.bind_eq_some_iff.mp H
             obtain ⟨t338, A380, H⟩ := H
             replace H : ((slotmeshlaw26_intervals.f kj24 l0).bind fun t339 => (some (t338 == (wrap64 (t339 + 0))))) = some r := H
             have A38 := Aside0.mk A380
             clear A380
             replace H := Option.bind_eq_some_iff.mp H
             obtain ⟨t339, A390, H⟩ := H
             replace H : (some (t338 == (wrap64 (t339 + 0)))) = some r := H
             have A39 := Aside0.mk A390
             clear A390
             obtain rfl := Option.some.inj H
             obtain ⟨Ao40, co40, eo40⟩ := Kd.V_slice HO_10.out
             subst eo40
             go_wp2_with (first | (go_at_call 22; (with_reducible refine (slotmeshlaw26_intervals.calls kj24 _ _ t326 t338 _ ?side1 ?side2 A38.out).mono ?_); (case side1 => repeat (first | exact (Kd.V_reads' HO_10.out).2.2 | (with_reducible refine Kd.C_alloc ?_ _) | (with_reducible refine Kd.C_drewN ?_ _) | (with_reducible refine Kd.C_drew ?_))); (case side2 => exact (Kd.V_reads' HO_10.out).2.1); rintro e w41 ⟨rfl, hb⟩; have n0_ := Aside0.mk (Kd.V_below (by (with_reducible repeat (first | apply Kd.V_alloc | apply Kd.V_drewN | apply Kd.V_drew)); exact HO_10.out) hb); have n1_ := Aside0.mk (below_step (by repeat (first | (with_reducible first | exact HB.out | apply below_alloc | apply pw_below_drewN | apply below_drew1) | exact HB.out)) hb); clear HO_10; clear HB; have HO_10 := n0_; have HB := n1_; clear n0_ n1_; (try clear hb); (try clear hb2); (try clear hk); (try clear hi)) | (go_at_call 22; (with_reducible refine (slotmeshlaw26_intervals.calls kj24 _ _ l0 t339 _ ?side1 ?side2 A39.out).mono ?_); (case side1 => repeat (first | exact (Kd.C_below HR0.out HB.out) | (with_reducible refine Kd.C_alloc ?_ _) | (with_reducible refine Kd.C_drewN ?_ _) | (with_reducible refine Kd.C_drew ?_))); (case side2 => exact HC0.out); rintro e w42 ⟨rfl, hb⟩; have n0_ := Aside0.mk (Kd.V_below (by (with_reducible repeat (first | apply Kd.V_alloc | apply Kd.V_drewN | apply Kd.V_drew)); exact HO_10.out) hb); have n1_ := Aside0.mk (below_step (by repeat (first | (with_reducible first | exact HB.out | apply below_alloc | apply pw_below_drewN | apply below_drew1) | exact HB.out)) hb); clear HO_10; clear HB; have HO_10 := n0_; have HB := n1_; clear n0_ n1_; (try clear hb); (try clear hb2); (try clear hk); (try clear hi)))
             go_ret
             exact ⟨by first | rfl | (simp [errW_none, errW_some] <;> rfl) | (simp [*, errW_none, errW_some] <;> rfl), by repeat (first | (with_reducible first | exact HB.out | apply below_alloc | apply pw_below_drewN | apply below_drew1) | exact HB.out)⟩
            ·rw [if_neg c37] at H
             have c37b0 : (t330 == 0) = false := beq_eq_false_iff_ne.mpr c37
             have c37b1 : (t330 != 0) = true := bne_iff_ne.mpr c37
             obtain rfl := Option.some.inj H
             go_wp2
             go_ret
             exact ⟨by first | rfl | (simp [errW_none, errW_some] <;> rfl) | (simp [*, errW_none, errW_some] <;> rfl), by repeat (first | (with_reducible first | exact HB.out | apply below_alloc | apply pw_below_drewN | apply below_drew1) | exact HB.out)⟩
           ·replace c36 := Bool.eq_false_iff.mpr c36
            subst c36
            have H1 : (some false) = some r := by rw [if_neg (show ¬ (false = true) by decide)] at H; exact H
            clear H
            have H := H1
            clear H1
            obtain rfl := Option.some.inj H
            go_wp2
            go_ret
            exact ⟨by first | rfl | (simp [errW_none, errW_some] <;> rfl) | (simp [*, errW_none, errW_some] <;> rfl), by repeat (first | (with_reducible first | exact HB.out | apply below_alloc | apply pw_below_drewN | apply below_drew1) | exact HB.out)⟩
          ·replace c35 := Bool.eq_false_iff.mpr c35
           subst c35
           have H1 : (if t323 = true then (if t330 = 0 then ((slotmeshlaw26_intervals.f kj24 t326).bind fun t340 => ((slotmeshlaw26_intervals.f kj24 l0).bind fun t341 => (some (t340 == (wrap64 (t341 + (wrap64 (1 - x13_2)))))))) else (some false)) else (some false)) = some r := by rw [if_neg (show ¬ (false = true) by decide)] at H; exact H
           clear H
           have H := H1
           clear H1
           by_cases c43 : t323 = true
           ·subst c43
            have H1 : (if t330 = 0 then ((slotmeshlaw26_intervals.f kj24 t326).bind fun t340 => ((slotmeshlaw26_intervals.f kj24 l0).bind fun t341 => (some (t340 == (wrap64 (t341 + (wrap64 (1 - x13_2)))))))) else (some false)) = some r := by rw [if_pos rfl] at H; exact H
            clear H
            have H := H1
            clear H1
            by_cases c44 : t330 = 0
            ·rw [if_pos c44] at H
             have c44b0 : (t330 == 0) = true := beq_iff_eq.mpr c44
             have c44b1 : (t330 != 0) = false := bne_eq_false_iff_eq.mpr c44
             clear c44
             replace H := Option.bind_eq_some_iff.mp H
             obtain ⟨t340, A450, H⟩ := H
             replace H : ((slotmeshlaw26_intervals.f kj24 l0).bind fun t341 => (some (t340 == (wrap64 (t341 + (wrap64 (1 - x13_2))))))) = some r := H
             have A45 := Aside0.mk A450
             clear A450
             replace H := Option.bind_eq_some_iff.mp H
             obtain ⟨t341, A460, H⟩ := H
             replace H : (some (t340 == (wrap64 (t341 + (wrap64 (1 - x13_2)))))) = some r := H
             have A46 := Aside0.mk A460
             clear A460
             obtain rfl := Option.some.inj H
             obtain ⟨Ao47, co47, eo47⟩ := Kd.V_slice HO_10.out
             subst eo47
             go_wp2_with (first | (go_at_call 22; (with_reducible refine (slotmeshlaw26_intervals.calls kj24 _ _ t326 t340 _ ?side1 ?side2 A45.out).mono ?_); (case side1 => repeat (first | exact (Kd.V_reads' HO_10.out).2.2 | (with_reducible refine Kd.C_alloc ?_ _) | (with_reducible refine Kd.C_drewN ?_ _) | (with_reducible refine Kd.C_drew ?_))); (case side2 => exact (Kd.V_reads' HO_10.out).2.1); rintro e w48 ⟨rfl, hb⟩; have n0_ := Aside0.mk (Kd.V_below (by (with_reducible repeat (first | apply Kd.V_alloc | apply Kd.V_drewN | apply Kd.V_drew)); exact HO_10.out) hb); have n1_ := Aside0.mk (below_step (by repeat (first | (with_reducible first | exact HB.out | apply below_alloc | apply pw_below_drewN | apply below_drew1) | exact HB.out)) hb); clear HO_10; clear HB; have HO_10 := n0_; have HB := n1_; clear n0_ n1_; (try clear hb); (try clear hb2); (try clear hk); (try clear hi)) | (go_at_call 22; (with_reducible refine (slotmeshlaw26_intervals.calls kj24 _ _ l0 t341 _ ?side1 ?side2 A46.out).mono ?_); (case side1 => repeat (first | exact (Kd.C_below HR0.out HB.out) | (with_reducible refine Kd.C_alloc ?_ _) | (with_reducible refine Kd.C_drewN ?_ _) | (with_reducible refine Kd.C_drew ?_))); (case side2 => exact HC0.out); rintro e w49 ⟨rfl, hb⟩; have n0_ := Aside0.mk (Kd.V_below (by (with_reducible repeat (first | apply Kd.V_alloc | apply Kd.V_drewN | apply Kd.V_drew)); exact HO_10.out) hb); have n1_ := Aside0.mk (below_step (by repeat (first | (with_reducible first | exact HB.out | apply below_alloc | apply pw_below_drewN | apply below_drew1) | exact HB.out)) hb); clear HO_10; clear HB; have HO_10 := n0_; have HB := n1_; clear n0_ n1_; (try clear hb); (try clear hb2); (try clear hk); (try clear hi)))
             go_ret
             exact ⟨by first | rfl | (simp [errW_none, errW_some] <;> rfl) | (simp [*, errW_none, errW_some] <;> rfl), by repeat (first | (with_reducible first | exact HB.out | apply below_alloc | apply pw_below_drewN | apply below_drew1) | exact HB.out)⟩
            ·rw [if_neg c44] at H
             have c44b0 : (t330 == 0) = false := beq_eq_false_iff_ne.mpr c44
             have c44b1 : (t330 != 0) = true := bne_iff_ne.mpr c44
             obtain rfl := Option.some.inj H
             go_wp2
             go_ret
             exact ⟨by first | rfl | (simp [errW_none, errW_some] <;> rfl) | (simp [*, errW_none, errW_some] <;> rfl), by repeat (first | (with_reducible first | exact HB.out | apply below_alloc | apply pw_below_drewN | apply below_drew1) | exact HB.out)⟩
           ·replace c43 := Bool.eq_false_iff.mpr c43
            subst c43
            have H1 : (some false) = some r := by rw [if_neg (show ¬ (false = true) by decide)] at H; exact H
            clear H
            have H := H1
            clear H1
            obtain rfl := Option.some.inj H
            go_wp2
            go_ret
            exact ⟨by first | rfl | (simp [errW_none, errW_some] <;> rfl) | (simp [*, errW_none, errW_some] <;> rfl), by repeat (first | (with_reducible first | exact HB.out | apply below_alloc | apply pw_below_drewN | apply below_drew1) | exact HB.out)⟩

-- NOT PRINTED: function 7 (slotmeshlaw26_SeenGaps)

end Go.Proofs.Ytjibgfihfbdcaaa.PSeen
