-- A text of this claim, written by this session's program. -- SLIM
import Derived.Test.YtjibgfihfbdcaaaPSeenx0
import Derived.Test.YtjibgfihfbdcaaaPSeenx1
import Derived.Test.YtjibgfihfbdcaaaPSeenx6
import Derived.Test.YtjibgfihfbdcaaaPSeenx7
import Derived.Test.YtjibgfihfbdcaaaPSeenx8
import Derived.Test.YtjibgfihfbdcaaaPSeenx9
import Derived.Test.YtjibgfihfbdcaaaPSeenx10
namespace Go.Proofs.Ytjibgfihfbdcaaa.PSeen
open Go.RowKit Go.Proofs.YtjibgfihfbdcaaaW.PrintWords Go.Proofs.YtjibgfihfbdcaaaW.PrintLast Go.Proofs.YtjibgfihfbdcaaaW.PrintMore
attribute [local go_sem] max2_int min2_int max_two min_two max_three min_three max_four min_four   -- for this text's walks alone
set_option linter.unusedVariables false
set_option linter.unusedSimpArgs false

attribute [local go_sem high] eqA47
/-! ### slotmeshlaw26_SeenOrigins: function 8 -/
mutual
def slotmeshlaw26_SeenOrigins.j0 : Nat → List (S45) → Int → Int → Int → Bool → Bool → Option (Bool)
 | 0, _, _, _, _, _, _ => none
 | k + 1, x0, x1, x2, x3, x9, x39 => if x39 = true then (some x9) else ((seen_Add.f k x0 (Int.tmod (wrap64 (x1)) 60) (wrap64 (1 + (Int.tmod (wrap64 (x2)) 1000000000)))).bind fun bt354 => (if bt354.2.2 = 0 then ((slotmeshref26_Of.f k x0 (Int.tmod (wrap64 (x3)) 60)).bind fun t359 => ((slotmeshref26_Of.f k bt354.1 (Int.tmod (wrap64 (x3)) 60)).bind fun t362 => (if (t359.length : Int) = (t362.length : Int) then (slotmeshlaw26_SeenOrigins.l0 k x0 x9 (Int.tmod (wrap64 (x1)) 60) (wrap64 (1 + (Int.tmod (wrap64 (x2)) 1000000000))) bt354.1 t359 t362 (t359.length : Int) 0) else (some false)))) else (if x9 = true then (some (bt354.2.2 == 10)) else (some false))))
def slotmeshlaw26_SeenOrigins.l0 : Nat → List (S45) → Bool → Int → Int → List (S45) → List (S47) → List (S47) → Int → Int → Option (Bool)
 | 0, _, _, _, _, _, _, _, _, _ => none
 | k + 1, x0, x9, x10, x11, x13, x16, x17, x78, x79 => if x79 < x78 then (if 0 ≤ x79 then (if x79 < (x16.length : Int) then (if x79 < (x17.length : Int) then (if (!(((rd_T47 x16 x79).f0) == ((rd_T47 x17 x79).f0)) || (!(((rd_T47 x16 x79).f1) == ((rd_T47 x17 x79).f1)))) = true then (some false) else (slotmeshlaw26_SeenOrigins.l0 k x0 x9 x10 x11 x13 x16 x17 x78 (wrap64 (x79 + 1)))) else (none)) else (none)) else (none)) else ((slotmeshref26_Of.f k x0 x10).bind fun t367 => (if (t367.length : Int) > 0 then ((slotmeshlaw26_of.f x10 t367).bind fun t370 => (slotmeshlaw26_SeenOrigins.j2 k x9 x10 x11 x13 t370)) else (slotmeshlaw26_SeenOrigins.j2 k x9 x10 x11 x13 ([] : List (S45)))))
def slotmeshlaw26_SeenOrigins.j2 : Nat → Bool → Int → Int → List (S45) → List (S45) → Option (Bool)
 | 0, _, _, _, _, _ => none
 | k + 1, x9, x10, x11, x13, x19 => (seen_Add.f k x19 x10 x11).bind fun bt373 => (if x9 = true then (if bt373.2.2 = 0 then ((slotmeshref26_Of.f k x13 x10).bind fun t378 => ((slotmeshlaw26_of.f x10 t378).bind fun t381 => ((slotmeshref26_Same.f k bt373.1 t381).bind fun t384 => (some t384)))) else (some false)) else (some false))
end
def slotmeshlaw26_SeenOrigins.f (k : Nat) (l0 : List (S45)) (a1 : Int) (a2 : Int) (a3 : Int) : Option (Bool) := (slotmeshlaw26_head.f k).bind fun t351 => ((slotmeshref26_Few.f k l0).bind fun t352 => (if t352 = true then ((slotmeshref26_Valid.f k l0).bind fun t353 => (if t353 = true then (slotmeshlaw26_SeenOrigins.j0 k l0 a1 a2 a3 t351 ((Int.tmod a1 60) == (Int.tmod a3 60))) else (slotmeshlaw26_SeenOrigins.j0 k l0 a1 a2 a3 t351 true))) else (slotmeshlaw26_SeenOrigins.j0 k l0 a1 a2 a3 t351 true)))
theorem slotmeshlaw26_SeenOrigins.mono_l : ∀ k, (∀ y0 y1 y2 y3 y4 y5, LeO (slotmeshlaw26_SeenOrigins.j0 k y0 y1 y2 y3 y4 y5) (slotmeshlaw26_SeenOrigins.j0 (k + 1) y0 y1 y2 y3 y4 y5)) ∧ (∀ y0 y1 y2 y3 y4 y5 y6 y7 y8, LeO (slotmeshlaw26_SeenOrigins.l0 k y0 y1 y2 y3 y4 y5 y6 y7 y8) (slotmeshlaw26_SeenOrigins.l0 (k + 1) y0 y1 y2 y3 y4 y5 y6 y7 y8)) ∧ (∀ y0 y1 y2 y3 y4, LeO (slotmeshlaw26_SeenOrigins.j2 k y0 y1 y2 y3 y4) (slotmeshlaw26_SeenOrigins.j2 (k + 1) y0 y1 y2 y3 y4))
 | 0 => ⟨fun _ _ _ _ _ _ r h => by simp [slotmeshlaw26_SeenOrigins.j0] at h, fun _ _ _ _ _ _ _ _ _ r h => by simp [slotmeshlaw26_SeenOrigins.l0] at h, fun _ _ _ _ _ r h => by simp [slotmeshlaw26_SeenOrigins.j2] at h⟩
 | k + 1 => by
  obtain ⟨ih0, ih1, ih2⟩ := slotmeshlaw26_SeenOrigins.mono_l k
  refine ⟨?_, ?_, ?_⟩
  ·intro y0 y1 y2 y3 y4 y5
   unfold slotmeshlaw26_SeenOrigins.j0
   repeat' first
   | (with_reducible exact ih0 _ _ _ _ _ _)
   | (with_reducible exact ih1 _ _ _ _ _ _ _ _ _)
   | (with_reducible exact ih2 _ _ _ _ _)
   | (with_reducible exact seen_Add.mono _ _ _ _)
   | (with_reducible exact slotmeshlaw26_head.mono _)
   | (with_reducible exact slotmeshref26_Few.mono _ _)
   | (with_reducible exact slotmeshref26_Of.mono _ _ _)
   | (with_reducible exact slotmeshref26_Same.mono _ _ _)
   | (with_reducible exact slotmeshref26_Valid.mono _ _)
   | (with_reducible exact LeO.refl _)
   | (with_reducible exact LeO.none _)
   | (with_reducible refine LeO.ite ?_ ?_)
   | (with_reducible refine LeO.bind ?_ (fun _ => ?_))
   | exact ih0 _ _ _ _ _ _
   | exact ih1 _ _ _ _ _ _ _ _ _
   | exact ih2 _ _ _ _ _
   | exact seen_Add.mono _ _ _ _
   | exact slotmeshlaw26_head.mono _
   | exact slotmeshref26_Few.mono _ _
   | exact slotmeshref26_Of.mono _ _ _
   | exact slotmeshref26_Same.mono _ _ _
   | exact slotmeshref26_Valid.mono _ _
   | exact LeO.none _
   | refine LeO.ite ?_ ?_
   | refine LeO.bind ?_ (fun _ => ?_)
  ·intro y0 y1 y2 y3 y4 y5 y6 y7 y8
   unfold slotmeshlaw26_SeenOrigins.l0
   repeat' first
   | (with_reducible exact ih0 _ _ _ _ _ _)
   | (with_reducible exact ih1 _ _ _ _ _ _ _ _ _)
   | (with_reducible exact ih2 _ _ _ _ _)
   | (with_reducible exact seen_Add.mono _ _ _ _)
   | (with_reducible exact slotmeshlaw26_head.mono _)
   | (with_reducible exact slotmeshref26_Few.mono _ _)
   | (with_reducible exact slotmeshref26_Of.mono _ _ _)
   | (with_reducible exact slotmeshref26_Same.mono _ _ _)
   | (with_reducible exact slotmeshref26_Valid.mono _ _)
   | (with_reducible exact LeO.refl _)
   | (with_reducible exact LeO.none _)
   | (with_reducible refine LeO.ite ?_ ?_)
   | (with_reducible refine LeO.bind ?_ (fun _ => ?_))
   | exact ih0 _ _ _ _ _ _
   | exact ih1 _ _ _ _ _ _ _ _ _
   | exact ih2 _ _ _ _ _
   | exact seen_Add.mono _ _ _ _
   | exact slotmeshlaw26_head.mono _
   | exact slotmeshref26_Few.mono _ _
   | exact slotmeshref26_Of.mono _ _ _
   | exact slotmeshref26_Same.mono _ _ _
   | exact slotmeshref26_Valid.mono _ _
   | exact LeO.none _
   | refine LeO.ite ?_ ?_
   | refine LeO.bind ?_ (fun _ => ?_)
  ·intro y0 y1 y2 y3 y4
   unfold slotmeshlaw26_SeenOrigins.j2
   repeat' first
   | (with_reducible exact ih0 _ _ _ _ _ _)
   | (with_reducible exact ih1 _ _ _ _ _ _ _ _ _)
   | (with_reducible exact ih2 _ _ _ _ _)
   | (with_reducible exact seen_Add.mono _ _ _ _)
   | (with_reducible exact slotmeshlaw26_head.mono _)
   | (with_reducible exact slotmeshref26_Few.mono _ _)
   | (with_reducible exact slotmeshref26_Of.mono _ _ _)
   | (with_reducible exact slotmeshref26_Same.mono _ _ _)
   | (with_reducible exact slotmeshref26_Valid.mono _ _)
   | (with_reducible exact LeO.refl _)
   | (with_reducible exact LeO.none _)
   | (with_reducible refine LeO.ite ?_ ?_)
   | (with_reducible refine LeO.bind ?_ (fun _ => ?_))
   | exact ih0 _ _ _ _ _ _
   | exact ih1 _ _ _ _ _ _ _ _ _
   | exact ih2 _ _ _ _ _
   | exact seen_Add.mono _ _ _ _
   | exact slotmeshlaw26_head.mono _
   | exact slotmeshref26_Few.mono _ _
   | exact slotmeshref26_Of.mono _ _ _
   | exact slotmeshref26_Same.mono _ _ _
   | exact slotmeshref26_Valid.mono _ _
   | exact LeO.none _
   | refine LeO.ite ?_ ?_
   | refine LeO.bind ?_ (fun _ => ?_)
theorem slotmeshlaw26_SeenOrigins.mono : ∀ a0 a1 a2 a3 k, LeO (slotmeshlaw26_SeenOrigins.f k a0 a1 a2 a3) (slotmeshlaw26_SeenOrigins.f (k + 1) a0 a1 a2 a3) := by
 intro a0 a1 a2 a3 k
 obtain ⟨ih0, ih1, ih2⟩ := slotmeshlaw26_SeenOrigins.mono_l k
 unfold slotmeshlaw26_SeenOrigins.f
 repeat' first
   | (with_reducible exact ih0 _ _ _ _ _ _)
   | (with_reducible exact ih1 _ _ _ _ _ _ _ _ _)
   | (with_reducible exact ih2 _ _ _ _ _)
   | (with_reducible exact seen_Add.mono _ _ _ _)
   | (with_reducible exact slotmeshlaw26_head.mono _)
   | (with_reducible exact slotmeshref26_Few.mono _ _)
   | (with_reducible exact slotmeshref26_Of.mono _ _ _)
   | (with_reducible exact slotmeshref26_Same.mono _ _ _)
   | (with_reducible exact slotmeshref26_Valid.mono _ _)
   | (with_reducible exact LeO.refl _)
   | (with_reducible exact LeO.none _)
   | (with_reducible refine LeO.ite ?_ ?_)
   | (with_reducible refine LeO.bind ?_ (fun _ => ?_))
   | exact ih0 _ _ _ _ _ _
   | exact ih1 _ _ _ _ _ _ _ _ _
   | exact ih2 _ _ _ _ _
   | exact seen_Add.mono _ _ _ _
   | exact slotmeshlaw26_head.mono _
   | exact slotmeshref26_Few.mono _ _
   | exact slotmeshref26_Of.mono _ _ _
   | exact slotmeshref26_Same.mono _ _ _
   | exact slotmeshref26_Valid.mono _ _
   | exact LeO.none _
   | refine LeO.ite ?_ ?_
   | refine LeO.bind ?_ (fun _ => ?_)
set_option maxHeartbeats 8000000 in
set_option maxRecDepth 100000 in
theorem slotmeshlaw26_SeenOrigins.calls (k : Nat) (A0 : Option Addr) (c0 : Nat) (l0 : List (S45)) (a1 : Int) (a2 : Int) (a3 : Int) (r : Bool) (w : World) (hr0 : Kd.C k45 w A0 l0.length l0) (hc0 : l0.length ≤ c0) (h : slotmeshlaw26_SeenOrigins.f k l0 a1 a2 a3 = some r) :
  Calls Try.prog 8 #[.slice A0 l0.length c0, .int .u8 a1, .int .u32 a2, .int .u8 a3] w fun e w' => e = .returned (.bool r) ∧ Below w.heap.size w w' := by
 have hu47 := Try.underlying47
 have HR0 := Aside0.mk hr0
 have HC0 := Aside0.mk hc0
 clear hr0 hc0
 have HB := Aside0.mk (Below.refl w.heap.size w)
 have H : ((slotmeshlaw26_head.f k).bind fun t351 => ((slotmeshref26_Few.f k l0).bind fun t352 => (if t352 = true then ((slotmeshref26_Valid.f k l0).bind fun t353 => (if t353 = true then (slotmeshlaw26_SeenOrigins.j0 k l0 a1 a2 a3 t351 ((Int.tmod a1 60) == (Int.tmod a3 60))) else (slotmeshlaw26_SeenOrigins.j0 k l0 a1 a2 a3 t351 true))) else (slotmeshlaw26_SeenOrigins.j0 k l0 a1 a2 a3 t351 true)))) = some r := h
 clear h
 replace H := Option.bind_eq_some_iff.mp H
 obtain ⟨t351, A50, H⟩ := H
 replace H : ((slotmeshref26_Few.f k l0).bind fun t352 => (if t352 = true then ((slotmeshref26_Valid.f k l0).bind fun t353 => (if t353 = true then (slotmeshlaw26_SeenOrigins.j0 k l0 a1 a2 a3 t351 ((Int.tmod a1 60) == (Int.tmod a3 60))) else (slotmeshlaw26_SeenOrigins.j0 k l0 a1 a2 a3 t351 true))) else (slotmeshlaw26_SeenOrigins.j0 k l0 a1 a2 a3 t351 true))) = some r := H
 have A5 := Aside0.mk A50
 clear A50
 have HC6 := Aside0.mk H
 clear H
 go_enter Try.func8, Try.ntmps8
 go_upto_region 2 with (first | (go_at_call 9; (with_reducible refine (slotmeshlaw26_head.calls k  t351 _ A5.out).mono ?_); rintro e w7 ⟨rfl, hb⟩; have n0_ := Aside0.mk (below_step (by repeat (first | (with_reducible first | exact HB.out | apply below_alloc | apply pw_below_drewN | apply below_drew1) | exact HB.out)) hb); clear HB; have HB := n0_; clear n0_; (try clear hb); (try clear hb2); (try clear hk); (try clear hi)))
 repeat (go_quiet (first | (go_at_call 9; (with_reducible refine (slotmeshlaw26_head.calls k  t351 _ A5.out).mono ?_); rintro e w7 ⟨rfl, hb⟩; have n0_ := Aside0.mk (below_step (by repeat (first | (with_reducible first | exact HB.out | apply below_alloc | apply pw_below_drewN | apply below_drew1) | exact HB.out)) hb); clear HB; have HB := n0_; clear n0_; (try clear hb); (try clear hb2); (try clear hk); (try clear hi))); go_upto_region 2 with (first | (go_at_call 9; (with_reducible refine (slotmeshlaw26_head.calls k  t351 _ A5.out).mono ?_); rintro e w7 ⟨rfl, hb⟩; have n0_ := Aside0.mk (below_step (by repeat (first | (with_reducible first | exact HB.out | apply below_alloc | apply pw_below_drewN | apply below_drew1) | exact HB.out)) hb); clear HB; have HB := n0_; clear n0_; (try clear hb); (try clear hb2); (try clear hk); (try clear hi))))
 (try simp only [Act.put, List.setIfInBounds_toArray, List.set_cons_zero, List.set_cons_succ])
 go_cut [39] (fun v39 wc => ∃ (kq : Nat) (x39_5 : Bool), v39 = .bool x39_5 ∧ Aside0 (slotmeshlaw26_SeenOrigins.j0 kq l0 a1 a2 a3 t351 x39_5 = some r) ∧ Aside0 (kq ≤ k) ∧ Aside0 (Below w.heap.size w wc))
 case first =>
  have H := HC6.out
  clear HC6
  replace H := Option.bind_eq_some_iff.mp H
  obtain ⟨t352, A80, H⟩ := H
  replace H : (if t352 = true then ((slotmeshref26_Valid.f k l0).bind fun t353 => (if t353 = true then (slotmeshlaw26_SeenOrigins.j0 k l0 a1 a2 a3 t351 ((Int.tmod a1 60) == (Int.tmod a3 60))) else (slotmeshlaw26_SeenOrigins.j0 k l0 a1 a2 a3 t351 true))) else (slotmeshlaw26_SeenOrigins.j0 k l0 a1 a2 a3 t351 true)) = some r := H
  have A8 := Aside0.mk A80
  clear A80
  by_cases c9 : t352 = true
  ·subst c9
   have H1 : ((slotmeshref26_Valid.f k l0).bind fun t353 => (if t353 = true then (slotmeshlaw26_SeenOrigins.j0 k l0 a1 a2 a3 t351 ((Int.tmod a1 60) == (Int.tmod a3 60))) else (slotmeshlaw26_SeenOrigins.j0 k l0 a1 a2 a3 t351 true))) = some r := by rw [if_pos rfl] at H; exact H
   clear H
   have H := H1
   clear H1
   replace H := Option.bind_eq_some_iff.mp H
   obtain ⟨t353, A100, H⟩ := H
   replace H : (if t353 = true then (slotmeshlaw26_SeenOrigins.j0 k l0 a1 a2 a3 t351 ((Int.tmod a1 60) == (Int.tmod a3 60))) else (slotmeshlaw26_SeenOrigins.j0 k l0 a1 a2 a3 t351 true)) = some r := H
   have A10 := Aside0.mk A100
   clear A100
   by_cases c11 : t353 = true
   ·subst c11
    have H1 : (slotmeshlaw26_SeenOrigins.j0 k l0 a1 a2 a3 t351 ((Int.tmod a1 60) == (Int.tmod a3 60))) = some r := by rw [if_pos rfl] at H; exact H
    clear H
    have H := H1
    clear H1
    have H' := Aside0.mk H
    clear H
    go_wp2_with (first | (go_at_call 10; (with_reducible refine (slotmeshref26_Few.calls k _ _ l0 true _ ?side1 ?side2 A8.out).mono ?_); (case side1 => repeat (first | exact (Kd.C_below HR0.out HB.out) | (with_reducible refine Kd.C_alloc ?_ _) | (with_reducible refine Kd.C_drewN ?_ _) | (with_reducible refine Kd.C_drew ?_))); (case side2 => exact HC0.out); rintro e w' ⟨rfl, ⟨nd, rfl⟩⟩; (try first | exact ⟨rfl, _, World.drewN_drewN _ _ _⟩ | exact ⟨rfl, _, Eq.trans (World.drewN_drewN _ _ _) (congrArg (World.drewN _) (Nat.add_assoc _ _ _))⟩)) | (go_at_call 14; (with_reducible refine (slotmeshref26_Valid.calls k _ _ l0 true _ ?side1 ?side2 A10.out).mono ?_); (case side1 => repeat (first | exact (Kd.C_below HR0.out (by repeat (first | (with_reducible first | exact HB.out | apply below_alloc | apply pw_below_drewN | apply below_drew1) | exact HB.out))) | (with_reducible refine Kd.C_alloc ?_ _) | (with_reducible refine Kd.C_drewN ?_ _) | (with_reducible refine Kd.C_drew ?_))); (case side2 => exact HC0.out); rintro e w12 ⟨rfl, hb⟩; have n0_ := Aside0.mk (below_step (by repeat (first | (with_reducible first | exact HB.out | apply below_alloc | apply pw_below_drewN | apply below_drew1) | exact HB.out)) hb); clear HB; have HB := n0_; clear n0_; (try clear hb); (try clear hb2); (try clear hk); (try clear hi)))
    repeat (go_quiet (first | (go_at_call 10; (with_reducible refine (slotmeshref26_Few.calls k _ _ l0 true _ ?side1 ?side2 A8.out).mono ?_); (case side1 => repeat (first | exact (Kd.C_below HR0.out HB.out) | (with_reducible refine Kd.C_alloc ?_ _) | (with_reducible refine Kd.C_drewN ?_ _) | (with_reducible refine Kd.C_drew ?_))); (case side2 => exact HC0.out); rintro e w' ⟨rfl, ⟨nd, rfl⟩⟩; (try first | exact ⟨rfl, _, World.drewN_drewN _ _ _⟩ | exact ⟨rfl, _, Eq.trans (World.drewN_drewN _ _ _) (congrArg (World.drewN _) (Nat.add_assoc _ _ _))⟩)) | (go_at_call 14; (with_reducible refine (slotmeshref26_Valid.calls k _ _ l0 true _ ?side1 ?side2 A10.out).mono ?_); (case side1 => repeat (first | exact (Kd.C_below HR0.out (by repeat (first | (with_reducible first | exact HB.out | apply below_alloc | apply pw_below_drewN | apply below_drew1) | exact HB.out))) | (with_reducible refine Kd.C_alloc ?_ _) | (with_reducible refine Kd.C_drewN ?_ _) | (with_reducible refine Kd.C_drew ?_))); (case side2 => exact HC0.out); rintro e w12 ⟨rfl, hb⟩; have n0_ := Aside0.mk (below_step (by repeat (first | (with_reducible first | exact HB.out | apply below_alloc | apply pw_below_drewN | apply below_drew1) | exact HB.out)) hb); clear HB; have HB := n0_; clear n0_; (try clear hb); (try clear hb2); (try clear hk); (try clear hi))); try go_wp2_with (first | (go_at_call 10; (with_reducible refine (slotmeshref26_Few.calls k _ _ l0 true _ ?side1 ?side2 A8.out).mono ?_); (case side1 => repeat (first | exact (Kd.C_below HR0.out HB.out) | (with_reducible refine Kd.C_alloc ?_ _) | (with_reducible refine Kd.C_drewN ?_ _) | (with_reducible refine Kd.C_drew ?_))); (case side2 => exact HC0.out); rintro e w' ⟨rfl, ⟨nd, rfl⟩⟩; (try first | exact ⟨rfl, _, World.drewN_drewN _ _ _⟩ | exact ⟨rfl, _, Eq.trans (World.drewN_drewN _ _ _) (congrArg (World.drewN _) (Nat.add_assoc _ _ _))⟩)) | (go_at_call 14; (with_reducible refine (slotmeshref26_Valid.calls k _ _ l0 true _ ?side1 ?side2 A10.out).mono ?_); (case side1 => repeat (first | exact (Kd.C_below HR0.out (by repeat (first | (with_reducible first | exact HB.out | apply below_alloc | apply pw_below_drewN | apply below_drew1) | exact HB.out))) | (with_reducible refine Kd.C_alloc ?_ _) | (with_reducible refine Kd.C_drewN ?_ _) | (with_reducible refine Kd.C_drew ?_))); (case side2 => exact HC0.out); rintro e w12 ⟨rfl, hb⟩; have n0_ := Aside0.mk (below_step (by repeat (first | (with_reducible first | exact HB.out | apply below_alloc | apply pw_below_drewN | apply below_drew1) | exact HB.out)) hb); clear HB; have HB := n0_; clear n0_; (try clear hb); (try clear hb2); (try clear hk); (try clear hi))))
    go_meet
    case rel => exact ⟨_, (((Int.tmod a1 60) == (Int.tmod a3 60))), (by first | rfl | (simp; done) | (simp [*]; done)), H', ⟨by first | omega | exact Nat.le_refl _⟩, ⟨by repeat (first | (with_reducible first | exact HB.out | apply below_alloc | apply pw_below_drewN | apply below_drew1) | exact HB.out)⟩⟩
   ·replace c11 := Bool.eq_false_iff.mpr c11
    subst c11
    have H1 : (slotmeshlaw26_SeenOrigins.j0 k l0 a1 a2 a3 t351 true) = some r := by rw [if_neg (show ¬ (false = true) by decide)] at H; exact H
    clear H
    have H := H1
    clear H1
    have H' := Aside0.mk H
    clear H
    go_wp2_with (first | (go_at_call 10; (with_reducible refine (slotmeshref26_Few.calls k _ _ l0 true _ ?side1 ?side2 A8.out).mono ?_); (case side1 => repeat (first | exact (Kd.C_below HR0.out HB.out) | (with_reducible refine Kd.C_alloc ?_ _) | (with_reducible refine Kd.C_drewN ?_ _) | (with_reducible refine Kd.C_drew ?_))); (case side2 => exact HC0.out); rintro e w' ⟨rfl, ⟨nd, rfl⟩⟩; (try first | exact ⟨rfl, _, World.drewN_drewN _ _ _⟩ | exact ⟨rfl, _, Eq.trans (World.drewN_drewN _ _ _) (congrArg (World.drewN _) (Nat.add_assoc _ _ _))⟩)) | (go_at_call 14; (with_reducible refine (slotmeshref26_Valid.calls k _ _ l0 false _ ?side1 ?side2 A10.out).mono ?_); (case side1 => repeat (first | exact (Kd.C_below HR0.out (by repeat (first | (with_reducible first | exact HB.out | apply below_alloc | apply pw_below_drewN | apply below_drew1) | exact HB.out))) | (with_reducible refine Kd.C_alloc ?_ _) | (with_reducible refine Kd.C_drewN ?_ _) | (with_reducible refine Kd.C_drew ?_))); (case side2 => exact HC0.out); rintro e w13 ⟨rfl, hb⟩; have n0_ := Aside0.mk (below_step (by repeat (first | (with_reducible first | exact HB.out | apply below_alloc | apply pw_below_drewN | apply below_drew1) | exact HB.out)) hb); clear HB; have HB := n0_; clear n0_; (try clear hb); (try clear hb2); (try clear hk); (try clear hi)))
    repeat (go_quiet (first | (go_at_call 10; (with_reducible refine (slotmeshref26_Few.calls k _ _ l0 true _ ?side1 ?side2 A8.out).mono ?_); (case side1 => repeat (first | exact (Kd.C_below HR0.out HB.out) | (with_reducible refine Kd.C_alloc ?_ _) | (with_reducible refine Kd.C_drewN ?_ _) | (with_reducible refine Kd.C_drew ?_))); (case side2 => exact HC0.out); rintro e w' ⟨rfl, ⟨nd, rfl⟩⟩; (try first | exact ⟨rfl, _, World.drewN_drewN _ _ _⟩ | exact ⟨rfl, _, Eq.trans (World.drewN_drewN _ _ _) (congrArg (World.drewN _) (Nat.add_assoc _ _ _))⟩)) | (go_at_call 14; (with_reducible refine (slotmeshref26_Valid.calls k _ _ l0 false _ ?side1 ?side2 A10.out).mono ?_); (case side1 => repeat (first | exact (Kd.C_below HR0.out (by repeat (first | (with_reducible first | exact HB.out | apply below_alloc | apply pw_below_drewN | apply below_drew1) | exact HB.out))) | (with_reducible refine Kd.C_alloc ?_ _) | (with_reducible refine Kd.C_drewN ?_ _) | (with_reducible refine Kd.C_drew ?_))); (case side2 => exact HC0.out); rintro e w13 ⟨rfl, hb⟩; have n0_ := Aside0.mk (below_step (by repeat (first | (with_reducible first | exact HB.out | apply below_alloc | apply pw_below_drewN | apply below_drew1) | exact HB.out)) hb); clear HB; have HB := n0_; clear n0_; (try clear hb); (try clear hb2); (try clear hk); (try clear hi))); try go_wp2_with (first | (go_at_call 10; (with_reducible refine (slotmeshref26_Few.calls k _ _ l0 true _ ?side1 ?side2 A8.out).mono ?_); (case side1 => repeat (first | exact (Kd.C_below HR0.out HB.out) | (with_reducible refine Kd.C_alloc ?_ _) | (with_reducible refine Kd.C_drewN ?_ _) | (with_reducible refine Kd.C_drew ?_))); (case side2 => exact HC0.out); rintro e w' ⟨rfl, ⟨nd, rfl⟩⟩; (try first | exact ⟨rfl, _, World.drewN_drewN _ _ _⟩ | exact ⟨rfl, _, Eq.trans (World.drewN_drewN _ _ _) (congrArg (World.drewN _) (Nat.add_assoc _ _ _))⟩)) | (go_at_call 14; (with_reducible refine (slotmeshref26_Valid.calls k _ _ l0 false _ ?side1 ?side2 A10.out).mono ?_); (case side1 => repeat (first | exact (Kd.C_below HR0.out (by repeat (first | (with_reducible first | exact HB.out | apply below_alloc | apply pw_below_drewN | apply below_drew1) | exact HB.out))) | (with_reducible refine Kd.C_alloc ?_ _) | (with_reducible refine Kd.C_drewN ?_ _) | (with_reducible refine Kd.C_drew ?_))); (case side2 => exact HC0.out); rintro e w13 ⟨rfl, hb⟩; have n0_ := Aside0.mk (below_step (by repeat (first | (with_reducible first | exact HB.out | apply below_alloc | apply pw_below_drewN | apply below_drew1) | exact HB.out)) hb); clear HB; have HB := n0_; clear n0_; (try clear hb); (try clear hb2); (try clear hk); (try clear hi))))
    go_meet
    case rel => exact ⟨_, (true), (by first | rfl | (simp; done) | (simp [*]; done)), H', ⟨by first | omega | exact Nat.le_refl _⟩, ⟨by repeat (first | (with_reducible first | exact HB.out | apply below_alloc | apply pw_below_drewN | apply below_drew1) | exact HB.out)⟩⟩
  ·replace c9 := Bool.eq_false_iff.mpr c9
   subst c9
   have H1 : (slotmeshlaw26_SeenOrigins.j0 k l0 a1 a2 a3 t351 true) = some r := by rw [if_neg (show ¬ (false = true) by decide)] at H; exact H
   clear H
   have H := H1
   clear H1
   have H' := Aside0.mk H
   clear H
   go_wp2_with (first | (go_at_call 10; (with_reducible refine (slotmeshref26_Few.calls k _ _ l0 false _ ?side1 ?side2 A8.out).mono ?_); (case side1 => repeat (first | exact (Kd.C_below HR0.out HB.out) | (with_reducible refine Kd.C_alloc ?_ _) | (with_reducible refine Kd.C_drewN ?_ _) | (with_reducible refine Kd.C_drew ?_))); (case side2 => exact HC0.out); rintro e w' ⟨rfl, ⟨nd, rfl⟩⟩; (try first | exact ⟨rfl, _, World.drewN_drewN _ _ _⟩ | exact ⟨rfl, _, Eq.trans (World.drewN_drewN _ _ _) (congrArg (World.drewN _) (Nat.add_assoc _ _ _))⟩)))
   repeat (go_quiet (first | (go_at_call 10; (with_reducible refine (slotmeshref26_Few.calls k _ _ l0 false _ ?side1 ?side2 A8.out).mono ?_); (case side1 => repeat (first | exact (Kd.C_below HR0.out HB.out) | (with_reducible refine Kd.C_alloc ?_ _) | (with_reducible refine Kd.C_drewN ?_ _) | (with_reducible refine Kd.C_drew ?_))); (case side2 => exact HC0.out); rintro e w' ⟨rfl, ⟨nd, rfl⟩⟩; (try first | exact ⟨rfl, _, World.drewN_drewN _ _ _⟩ | exact ⟨rfl, _, Eq.trans (World.drewN_drewN _ _ _) (congrArg (World.drewN _) (Nat.add_assoc _ _ _))⟩))); try go_wp2_with (first | (go_at_call 10; (with_reducible refine (slotmeshref26_Few.calls k _ _ l0 false _ ?side1 ?side2 A8.out).mono ?_); (case side1 => repeat (first | exact (Kd.C_below HR0.out HB.out) | (with_reducible refine Kd.C_alloc ?_ _) | (with_reducible refine Kd.C_drewN ?_ _) | (with_reducible refine Kd.C_drew ?_))); (case side2 => exact HC0.out); rintro e w' ⟨rfl, ⟨nd, rfl⟩⟩; (try first | exact ⟨rfl, _, World.drewN_drewN _ _ _⟩ | exact ⟨rfl, _, Eq.trans (World.drewN_drewN _ _ _) (congrArg (World.drewN _) (Nat.add_assoc _ _ _))⟩))))
   go_meet
   case rel => exact ⟨_, (true), (by first | rfl | (simp; done) | (simp [*]; done)), H', ⟨by first | omega | exact Nat.le_refl _⟩, ⟨by repeat (first | (with_reducible first | exact HB.out | apply below_alloc | apply pw_below_drewN | apply below_drew1) | exact HB.out)⟩⟩
 case rest =>
  clear HC6
  try clear c1
  try clear p2
  try clear c8
  try clear c9
  try clear c11
  obtain ⟨kq, x39_5, rfl, HA, HJ5, HB⟩ := hcut
  cases kq with
  | zero => exact absurd HA.out (by simp [slotmeshlaw26_SeenOrigins.j0])
  | succ kj5 =>
   have H := HA.out
   clear HA
   simp only [slotmeshlaw26_SeenOrigins.j0] at H
   by_cases c14 : x39_5 = true
   ·subst c14
    have H1 : (some t351) = some r := by rw [if_pos rfl] at H; exact H
    clear H
    have H := H1
    clear H1
    obtain rfl := Option.some.inj H
    go_wp2
    repeat (go_quiet (fail); try go_wp2)
    go_ret
    exact ⟨by first | rfl | (simp [errW_none, errW_some] <;> rfl) | (simp [*, errW_none, errW_some] <;> rfl), by repeat (first | (with_reducible first | exact HB.out | apply below_alloc | apply pw_below_drewN | apply below_drew1) | exact HB.out)⟩
   ·replace c14 := Bool.eq_false_iff.mpr c14
    subst c14
    have H1 : ((seen_Add.f kj5 l0 (Int.tmod (wrap64 (a1)) 60) (wrap64 (1 + (Int.tmod (wrap64 (a2)) 1000000000)))).bind fun bt354 => (if bt354.2.2 = 0 then ((slotmeshref26_Of.f kj5 l0 (Int.tmod (wrap64 (a3)) 60)).bind fun t359 => ((slotmeshref26_Of.f kj5 bt354.1 (Int.tmod (wrap64 (a3)) 60)).bind fun t362 => (if (t359.length : Int) = (t362.length : Int) then (slotmeshlaw26_SeenOrigins.l0 kj5 l0 t351 (Int.tmod (wrap64 (a1)) 60) (wrap64 (1 + (Int.tmod (wrap64 (a2)) 1000000000))) bt354.1 t359 t362 (t359.length : Int) 0) else (some false)))) else (if t351 = true then (some (bt354.2.2 == 10)) else (some false)))) = some r := by rw [if_neg (show ¬ (false = true) by decide)] at H; exact H
    clear H
    have H := H1
    clear H1
    replace H := Option.bind_eq_some_iff.mp H
    obtain ⟨⟨t354, t357, t358⟩, A150, H⟩ := H
    replace H : (if t358 = 0 then ((slotmeshref26_Of.f kj5 l0 (Int.tmod (wrap64 (a3)) 60)).bind fun t359 => ((slotmeshref26_Of.f kj5 t354 (Int.tmod (wrap64 (a3)) 60)).bind fun t362 => (if (t359.length : Int) = (t362.length : Int) then (slotmeshlaw26_SeenOrigins.l0 kj5 l0 t351 (Int.tmod (wrap64 (a1)) 60) (wrap64 (1 + (Int.tmod (wrap64 (a2)) 1000000000))) t354 t359 t362 (t359.length : Int) 0) else (some false)))) else (if t351 = true then (some (t358 == 10)) else (some false))) = some r := H
    have A15 := Aside0.mk A150
    clear A150
    by_cases c16 : t358 = 0
    ·rw [if_pos c16] at H
     have c16b0 : (t358 == 0) = true := beq_iff_eq.mpr c16
     have c16b1 : (t358 != 0) = false := bne_eq_false_iff_eq.mpr c16
     clear c16
     replace H := Option.bind_eq_some_iff.mp H
     obtain ⟨t359, A170, H⟩ := H
     replace H : ((slotmeshref26_Of.f kj5 t354 (Int.tmod (wrap64 (a3)) 60)).bind fun t362 => (if (t359.length : Int) = (t362.length : Int) then (slotmeshlaw26_SeenOrigins.l0 kj5 l0 t351 (Int.tmod (wrap64 (a1)) 60) (wrap64 (1 + (Int.tmod (wrap64 (a2)) 1000000000))) t354 t359 t362 (t359.length : Int) 0) else (some false))) = some r := H
     have A17 := Aside0.mk A170
     clear A170
     replace H := Option.bind_eq_some_iff.mp H
     obtain ⟨t362, A180, H⟩ := H
     replace H : (if (t359.length : Int) = (t362.length : Int) then (slotmeshlaw26_SeenOrigins.l0 kj5 l0 t351 (Int.tmod (wrap64 (a1)) 60) (wrap64 (1 + (Int.tmod (wrap64 (a2)) 1000000000))) t354 t359 t362 (t359.length : Int) 0) else (some false)) = some r := H
     have A18 := Aside0.mk A180
     clear A180
     by_cases c19 : (t359.length : Int) = (t362.length : Int)
     ·rw [if_pos c19] at H
      have c19b0 : ((t359.length : Int) == (t362.length : Int)) = true := beq_iff_eq.mpr c19
      have c19b1 : ((t359.length : Int) != (t362.length : Int)) = false := bne_eq_false_iff_eq.mpr c19
      have c19b2 : (t359.length == t362.length) = true := by first | simpa using c19 | (simp at c19 ⊢; omega)
      clear c19
      have H' := Aside0.mk H
      clear H
      go_wp2_with (first | (go_at_call 11; (with_reducible refine (seen_Add.calls kj5 (fun k_ => k_ < w.heap.size) _ _ l0 (Int.tmod (wrap64 (a1)) 60) (wrap64 (1 + (Int.tmod (wrap64 (a2)) 1000000000))) t354 t357 t358 _ ?side1 A15.out).mono ?_); (case side1 => exact Kd.V_mk HC0.out (Kd.F_below (Kd.C_F k45_heap HR0.out) (by repeat (first | (with_reducible first | exact HB.out | apply below_alloc | apply pw_below_drewN | apply below_drew1) | exact HB.out)))); rintro e w20 ⟨v355, rfl, ho0, hb⟩; have n0_ := Aside0.mk (Kd.V_lower (Kd.V_mono (ok' := fun k_ => True) ho0 (fun k_ hk_ => trivial)) (below_size (by repeat (first | (with_reducible first | exact HB.out | apply below_alloc | apply pw_below_drewN | apply below_drew1) | exact HB.out)))); have n1_ := Aside0.mk (below_step (by repeat (first | (with_reducible first | exact HB.out | apply below_alloc | apply pw_below_drewN | apply below_drew1) | exact HB.out)) hb); clear HB; have HO356 := n0_; have HB := n1_; clear n0_ n1_; (try clear hb); (try clear hb2); (try clear hk); (try clear hi); (try clear ho0)) | (go_at_call 23; (with_reducible refine (slotmeshref26_Of.calls kj5 (fun k_ => k_ < w.heap.size) _ _ l0 (Int.tmod (wrap64 (a3)) 60) t359 _ ?side1 A17.out).mono ?_); (case side1 => exact Kd.V_mk HC0.out (Kd.F_below (Kd.C_F k45_heap HR0.out) (by repeat (first | (with_reducible first | exact HB.out | apply below_alloc | apply pw_below_drewN | apply below_drew1) | exact HB.out)))); rintro e w21 ⟨v360, rfl, ho0, hb⟩; have n0_ := Aside0.mk (Kd.V_below (by (with_reducible repeat (first | apply Kd.V_alloc | apply Kd.V_drewN | apply Kd.V_drew)); exact HO356.out) hb); have n1_ := Aside0.mk (Kd.V_lower (Kd.V_mono (ok' := fun k_ => True) ho0 (fun k_ hk_ => trivial)) (below_size (by repeat (first | (with_reducible first | exact HB.out | apply below_alloc | apply pw_below_drewN | apply below_drew1) | exact HB.out)))); have n2_ := Aside0.mk (below_step (by repeat (first | (with_reducible first | exact HB.out | apply below_alloc | apply pw_below_drewN | apply below_drew1) | exact HB.out)) hb); clear HO356; clear HB; have HO356 := n0_; have HO361 := n1_; have HB := n2_; clear n0_ n1_ n2_; (try clear hb); (try clear hb2); (try clear hk); (try clear hi); (try clear ho0); obtain ⟨Ao22, co22, eo22⟩ := Kd.V_slice HO356.out; subst eo22) | (go_at_call 23; (with_reducible refine (slotmeshref26_Of.calls kj5 (fun k_ => True) _ _ t354 (Int.tmod (wrap64 (a3)) 60) t362 _ ?side1 A18.out).mono ?_); (case side1 => exact HO356.out); rintro e w23 ⟨v363, rfl, ho0, hb⟩; have n0_ := Aside0.mk (Kd.V_below (by (with_reducible repeat (first | apply Kd.V_alloc | apply Kd.V_drewN | apply Kd.V_drew)); exact HO356.out) hb); have n1_ := Aside0.mk (Kd.V_below (by (with_reducible repeat (first | apply Kd.V_alloc | apply Kd.V_drewN | apply Kd.V_drew)); exact HO361.out) hb); have n2_ := Aside0.mk (Kd.V_lower (Kd.V_mono (ok' := fun k_ => True) ho0 (fun k_ hk_ => trivial)) (below_size (by repeat (first | (with_reducible first | exact HB.out | apply below_alloc | apply pw_below_drewN | apply below_drew1) | exact HB.out)))); have n3_ := Aside0.mk (below_step (by repeat (first | (with_reducible first | exact HB.out | apply below_alloc | apply pw_below_drewN | apply below_drew1) | exact HB.out)) hb); clear HO356; clear HO361; clear HB; have HO356 := n0_; have HO361 := n1_; have HO364 := n2_; have HB := n3_; clear n0_ n1_ n2_ n3_; (try clear hb); (try clear hb2); (try clear hk); (try clear hi); (try clear ho0); obtain ⟨Ao24, co24, eo24⟩ := Kd.V_slice HO361.out; subst eo24; obtain ⟨Ao25, co25, eo25⟩ := Kd.V_slice HO364.out; subst eo25))
      repeat (go_quiet (first | (go_at_call 11; (with_reducible refine (seen_Add.calls kj5 (fun k_ => k_ < w.heap.size) _ _ l0 (Int.tmod (wrap64 (a1)) 60) (wrap64 (1 + (Int.tmod (wrap64 (a2)) 1000000000))) t354 t357 t358 _ ?side1 A15.out).mono ?_); (case side1 => exact Kd.V_mk HC0.out (Kd.F_below (Kd.C_F k45_heap HR0.out) (by repeat (first | (with_reducible first | exact HB.out | apply below_alloc | apply pw_below_drewN | apply below_drew1) | exact HB.out)))); rintro e w20 ⟨v355, rfl, ho0, hb⟩; have n0_ := Aside0.mk (Kd.V_lower (Kd.V_mono (ok' := fun k_ => True) ho0 (fun k_ hk_ => trivial)) (below_size (by repeat (first | (with_reducible first | exact HB.out | apply below_alloc | apply pw_below_drewN | apply below_drew1) | exact HB.out)))); have n1_ := Aside0.mk (below_step (by repeat (first | (with_reducible first | exact HB.out | apply below_alloc | apply pw_below_drewN | apply below_drew1) | exact HB.out)) hb); clear HB; have HO356 := n0_; have HB := n1_; clear n0_ n1_; (try clear hb); (try clear hb2); (try clear hk); (try clear hi); (try clear ho0)) | (go_at_call 23; (with_reducible refine (slotmeshref26_Of.calls kj5 (fun k_ => k_ < w.heap.size) _ _ l0 (Int.tmod (wrap64 (a3)) 60) t359 _ ?side1 A17.out).mono ?_); (case side1 => exact Kd.V_mk HC0.out (Kd.F_below (Kd.C_F k45_heap HR0.out) (by repeat (first | (with_reducible first | exact HB.out | apply below_alloc | apply pw_below_drewN | apply below_drew1) | exact HB.out)))); rintro e w21 ⟨v360, rfl, ho0, hb⟩; have n0_ := Aside0.mk (Kd.V_below (by (with_reducible repeat (first | apply Kd.V_alloc | apply Kd.V_drewN | apply Kd.V_drew)); exact HO356.out) hb); have n1_ := Aside0.mk (Kd.V_lower (Kd.V_mono (ok' := fun k_ => True) ho0 (fun k_ hk_ => trivial)) (below_size (by repeat (first | (with_reducible first | exact HB.out | apply below_alloc | apply pw_below_drewN | apply below_drew1) | exact HB.out)))); have n2_ := Aside0.mk (below_step (by repeat (first | (with_reducible first | exact HB.out | apply below_alloc | apply pw_below_drewN | apply below_drew1) | exact HB.out)) hb); clear HO356; clear HB; have HO356 := n0_; have HO361 := n1_; have HB := n2_; clear n0_ n1_ n2_; (try clear hb); (try clear hb2); (try clear hk); (try clear hi); (try clear ho0); obtain ⟨Ao22, co22, eo22⟩ := Kd.V_slice HO356.out; subst eo22) | (go_at_call 23; (with_reducible refine (slotmeshref26_Of.calls kj5 (fun k_ => True) _ _ t354 (Int.tmod (wrap64 (a3)) 60) t362 _ ?side1 A18.out).mono ?_); (case side1 => exact HO356.out); rintro e w23 ⟨v363, rfl, ho0, hb⟩; have n0_ := Aside0.mk (Kd.V_below (by (with_reducible repeat (first | apply Kd.V_alloc | apply Kd.V_drewN | apply Kd.V_drew)); exact HO356.out) hb); have n1_ := Aside0.mk (Kd.V_below (by (with_reducible repeat (first | apply Kd.V_alloc | apply Kd.V_drewN | apply Kd.V_drew)); exact HO361.out) hb); have n2_ := Aside0.mk (Kd.V_lower (Kd.V_mono (ok' := fun k_ => True) ho0 (fun k_ hk_ => trivial)) (below_size (by repeat (first | (with_reducible first | exact HB.out | apply below_alloc | apply pw_below_drewN | apply below_drew1) | exact HB.out)))); have n3_ := Aside0.mk (below_step (by repeat (first | (with_reducible first | exact HB.out | apply below_alloc | apply pw_below_drewN | apply below_drew1) | exact HB.out)) hb); clear HO356; clear HO361; clear HB; have HO356 := n0_; have HO361 := n1_; have HO364 := n2_; have HB := n3_; clear n0_ n1_ n2_ n3_; (try clear hb); (try clear hb2); (try clear hk); (try clear hi); (try clear ho0); obtain ⟨Ao24, co24, eo24⟩ := Kd.V_slice HO361.out; subst eo24; obtain ⟨Ao25, co25, eo25⟩ := Kd.V_slice HO364.out; subst eo25)); try go_wp2_with (first | (go_at_call 11; (with_reducible refine (seen_Add.calls kj5 (fun k_ => k_ < w.heap.size) _ _ l0 (Int.tmod (wrap64 (a1)) 60) (wrap64 (1 + (Int.tmod (wrap64 (a2)) 1000000000))) t354 t357 t358 _ ?side1 A15.out).mono ?_); (case side1 => exact Kd.V_mk HC0.out (Kd.F_below (Kd.C_F k45_heap HR0.out) (by repeat (first | (with_reducible first | exact HB.out | apply below_alloc | apply pw_below_drewN | apply below_drew1) | exact HB.out)))); rintro e w20 ⟨v355, rfl, ho0, hb⟩; have n0_ := Aside0.mk (Kd.V_lower (Kd.V_mono (ok' := fun k_ => True) ho0 (fun k_ hk_ => trivial)) (below_size (by repeat (first | (with_reducible first | exact HB.out | apply below_alloc | apply pw_below_drewN | apply below_drew1) | exact HB.out)))); have n1_ := Aside0.mk (below_step (by repeat (first | (with_reducible first | exact HB.out | apply below_alloc | apply pw_below_drewN | apply below_drew1) | exact HB.out)) hb); clear HB; have HO356 := n0_; have HB := n1_; clear n0_ n1_; (try clear hb); (try clear hb2); (try clear hk); (try clear hi); (try clear ho0)) | (go_at_call 23; (with_reducible refine (slotmeshref26_Of.calls kj5 (fun k_ => k_ < w.heap.size) _ _ l0 (Int.tmod (wrap64 (a3)) 60) t359 _ ?side1 A17.out).mono ?_); (case side1 => exact Kd.V_mk HC0.out (Kd.F_below (Kd.C_F k45_heap HR0.out) (by repeat (first | (with_reducible first | exact HB.out | apply below_alloc | apply pw_below_drewN | apply below_drew1) | exact HB.out)))); rintro e w21 ⟨v360, rfl, ho0, hb⟩; have n0_ := Aside0.mk (Kd.V_below (by (with_reducible repeat (first | apply Kd.V_alloc | apply Kd.V_drewN | apply Kd.V_drew)); exact HO356.out) hb); have n1_ := Aside0.mk (Kd.V_lower (Kd.V_mono (ok' := fun k_ => True) ho0 (fun k_ hk_ => trivial)) (below_size (by repeat (first | (with_reducible first | exact HB.out | apply below_alloc | apply pw_below_drewN | apply below_drew1) | exact HB.out)))); have n2_ := Aside0.mk (below_step (by repeat (first | (with_reducible first | exact HB.out | apply below_alloc | apply pw_below_drewN | apply below_drew1) | exact HB.out)) hb); clear HO356; clear HB; have HO356 := n0_; have HO361 := n1_; have HB := n2_; clear n0_ n1_ n2_; (try clear hb); (try clear hb2); (try clear hk); (try clear hi); (try clear ho0); obtain ⟨Ao22, co22, eo22⟩ := Kd.V_slice HO356.out; subst eo22) | (go_at_call 23; (with_reducible refine (slotmeshref26_Of.calls kj5 (fun k_ => True) _ _ t354 (Int.tmod (wrap64 (a3)) 60) t362 _ ?side1 A18.out).mono ?_); (case side1 => exact HO356.out); rintro e w23 ⟨v363, rfl, ho0, hb⟩; have n0_ := Aside0.mk (Kd.V_below (by (with_reducible repeat (first | apply Kd.V_alloc | apply Kd.V_drewN | apply Kd.V_drew)); exact HO356.out) hb); have n1_ := Aside0.mk (Kd.V_below (by (with_reducible repeat (first | apply Kd.V_alloc | apply Kd.V_drewN | apply Kd.V_drew)); exact HO361.out) hb); have n2_ := Aside0.mk (Kd.V_lower (Kd.V_mono (ok' := fun k_ => True) ho0 (fun k_ hk_ => trivial)) (below_size (by repeat (first | (with_reducible first | exact HB.out | apply below_alloc | apply pw_below_drewN | apply below_drew1) | exact HB.out)))); have n3_ := Aside0.mk (below_step (by repeat (first | (with_reducible first | exact HB.out | apply below_alloc | apply pw_below_drewN | apply below_drew1) | exact HB.out)) hb); clear HO356; clear HO361; clear HB; have HO356 := n0_; have HO361 := n1_; have HO364 := n2_; have HB := n3_; clear n0_ n1_ n2_ n3_; (try clear hb); (try clear hb2); (try clear hk); (try clear hi); (try clear ho0); obtain ⟨Ao24, co24, eo24⟩ := Kd.V_slice HO361.out; subst eo24; obtain ⟨Ao25, co25, eo25⟩ := Kd.V_slice HO364.out; subst eo25)))
      go_loopg [79] kj5 (fun kq v79 w' => ∃ (x79_2 : Int), v79 = .int .i64 x79_2 ∧ Aside0 (slotmeshlaw26_SeenOrigins.l0 kq l0 t351 (Int.tmod (wrap64 (a1)) 60) (wrap64 (1 + (Int.tmod (wrap64 (a2)) 1000000000))) t354 t359 t362 (t359.length : Int) x79_2 = some r) ∧ Aside0 (kq ≤ kj5) ∧ Aside0 (Kd.V k45 45 w' w.heap.size (fun _ => True) (.slice Ao22 t354.length co22) t354) ∧ Aside0 (Kd.V k47 47 w' w.heap.size (fun _ => True) (.slice Ao24 t359.length co24) t359) ∧ Aside0 (Kd.V k47 47 w' w.heap.size (fun _ => True) (.slice Ao25 t362.length co25) t362) ∧ Aside0 (Below w.heap.size w w'))
      case atStart => exact ⟨(0), (by first | rfl | (simp; done) | (simp [*]; done)), H', ⟨Nat.le_refl _⟩, ⟨by (with_reducible repeat (first | apply Kd.V_alloc | apply Kd.V_drewN | apply Kd.V_drew)); exact HO356.out⟩, ⟨by (with_reducible repeat (first | apply Kd.V_alloc | apply Kd.V_drewN | apply Kd.V_drew)); exact HO361.out⟩, ⟨by (with_reducible repeat (first | apply Kd.V_alloc | apply Kd.V_drewN | apply Kd.V_drew)); exact HO364.out⟩, ⟨by repeat (first | (with_reducible first | exact HB.out | apply below_alloc | apply pw_below_drewN | apply below_drew1) | exact HB.out)⟩⟩
      case round =>
       clear H'
       try clear c1
       try clear p2
       try clear p6
       try clear c8
       try clear c9
       try clear c11
       try clear c14
       try clear c16
       try clear c16b0
       try clear c16b1
       try clear c19
       try clear c19b0
       try clear c19b1
       try clear c19b2
       try clear p2
       obtain ⟨x79_2, rfl, HA, HK2, HO_13, HO_16, HO_17, HB⟩ := hrel
       cases gk with
       | zero => exact absurd HA.out (by simp [slotmeshlaw26_SeenOrigins.l0])
       | succ k2 =>
        have H := HA.out
        clear HA
        simp only [slotmeshlaw26_SeenOrigins.l0] at H
        by_cases c26 : x79_2 < (t359.length : Int)
        ·rw [if_pos c26] at H
         have c26b0 : decide (x79_2 < (t359.length : Int)) = true := decide_eq_true c26
         clear c26
         by_cases c27 : 0 ≤ x79_2
         ·rw [if_pos c27] at H
          have c27b0 : decide (0 ≤ x79_2) = true := decide_eq_true c27
          clear c27
          by_cases c28 : x79_2 < (t359.length : Int)
          ·rw [if_pos c28] at H
           have c28b0 : decide (x79_2 < (t359.length : Int)) = true := decide_eq_true c28
           clear c28
           by_cases c29 : x79_2 < (t362.length : Int)
           ·rw [if_pos c29] at H
            have c29b0 : decide (x79_2 < (t362.length : Int)) = true := decide_eq_true c29
            clear c29
            by_cases c30 : (!(((rd_T47 t359 x79_2).f0) == ((rd_T47 t362 x79_2).f0)) || (!(((rd_T47 t359 x79_2).f1) == ((rd_T47 t362 x79_2).f1)))) = true
            ·rw [if_pos c30] at H
             have c30b0 : (!(((rd_T47 t359 x79_2).f0) == ((rd_T47 t362 x79_2).f0)) || (!(((rd_T47 t359 x79_2).f1) == ((rd_T47 t362 x79_2).f1)))) = true := c30
             clear c30
             obtain rfl := Option.some.inj H
             have p365 : 0 ≤ (x79_2 : Int) := of_decide_eq_true (by first | (with_reducible assumption) | assumption)
             have q365 : x79_2 < (t359.length : Int) := of_decide_eq_true (by first | (with_reducible assumption) | assumption)
             obtain ⟨ad365, e365, hx365_0, hx365_1⟩ := at_T47 (Kd.V_reads' HO_16.out).2.2 x79_2 p365 q365
             cases e365
             replace p365 := eq_true p365
             replace q365 := eq_true q365
             have p366 : 0 ≤ (x79_2 : Int) := of_decide_eq_true (by first | (with_reducible assumption) | assumption)
             have q366 : x79_2 < (t362.length : Int) := of_decide_eq_true (by first | (with_reducible assumption) | assumption)
             obtain ⟨ad366, e366, hx366_0, hx366_1⟩ := at_T47 (Kd.V_reads' HO_17.out).2.2 x79_2 p366 q366
             cases e366
             replace p366 := eq_true p366
             replace q366 := eq_true q366
             go_wp2
             repeat (go_quiet (fail); try go_wp2)
             go_ret
             exact ⟨by first | rfl | (simp [errW_none, errW_some] <;> rfl) | (simp [*, errW_none, errW_some] <;> rfl), by repeat (first | (with_reducible first | exact HB.out | apply below_alloc | apply pw_below_drewN | apply below_drew1) | exact HB.out)⟩
            ·rw [if_neg c30] at H
             have c30b0 : (!(((rd_T47 t359 x79_2).f0) == ((rd_T47 t362 x79_2).f0)) || (!(((rd_T47 t359 x79_2).f1) == ((rd_T47 t362 x79_2).f1)))) = false := by simpa using c30
             clear c30
             have H' := Aside0.mk H
             clear H
             have p365 : 0 ≤ (x79_2 : Int) := of_decide_eq_true (by first | (with_reducible assumption) | assumption)
             have q365 : x79_2 < (t359.length : Int) := of_decide_eq_true (by first | (with_reducible assumption) | assumption)
             obtain ⟨ad365, e365, hx365_0, hx365_1⟩ := at_T47 (Kd.V_reads' HO_16.out).2.2 x79_2 p365 q365
             cases e365
             replace p365 := eq_true p365
             replace q365 := eq_true q365
             have p366 : 0 ≤ (x79_2 : Int) := of_decide_eq_true (by first | (with_reducible assumption) | assumption)
             have q366 : x79_2 < (t362.length : Int) := of_decide_eq_true (by first | (with_reducible assumption) | assumption)
             obtain ⟨ad366, e366, hx366_0, hx366_1⟩ := at_T47 (Kd.V_reads' HO_17.out).2.2 x79_2 p366 q366
             cases e366
             replace p366 := eq_true p366
             replace q366 := eq_true q366
             go_wp2
             repeat (go_quiet (fail); try go_wp2)
             go_roundg k2
             case measure => have := HJ5.out; have := HK2.out; omega
             case rel => exact ⟨(wrap64 (x79_2 + 1)), (by first | rfl | (simp; done) | (simp [*]; done)), H', ⟨by have := HJ5.out; have := HK2.out; omega⟩, ⟨by (with_reducible repeat (first | apply Kd.V_alloc | apply Kd.V_drewN | apply Kd.V_drew)); exact HO_13.out⟩, ⟨by (with_reducible repeat (first | apply Kd.V_alloc | apply Kd.V_drewN | apply Kd.V_drew)); exact HO_16.out⟩, ⟨by (with_reducible repeat (first | apply Kd.V_alloc | apply Kd.V_drewN | apply Kd.V_drew)); exact HO_17.out⟩, ⟨by repeat (first | (with_reducible first | exact HB.out | apply below_alloc | apply pw_below_drewN | apply below_drew1) | exact HB.out)⟩⟩
           ·rw [if_neg c29] at H
            exact absurd H (by simp)
          ·rw [if_neg c28] at H
           exact absurd H (by simp)
         ·rw [if_neg c27] at H
          exact absurd H (by simp)
        ·rw [if_neg c26] at H
         have c26b0 : decide (x79_2 < (t359.length : Int)) = false := decide_eq_false c26
         clear c26
         replace H := Option.bind_eq_some_iff.mp H
         obtain ⟨t367, A310, H⟩ := H
         replace H : (if (t367.length : Int) > 0 then ((slotmeshlaw26_of.f (Int.tmod (wrap64 (a1)) 60) t367).bind fun t370 => (slotmeshlaw26_SeenOrigins.j2 k2 t351 (Int.tmod (wrap64 (a1)) 60) (wrap64 (1 + (Int.tmod (wrap64 (a2)) 1000000000))) t354 t370)) else (slotmeshlaw26_SeenOrigins.j2 k2 t351 (Int.tmod (wrap64 (a1)) 60) (wrap64 (1 + (Int.tmod (wrap64 (a2)) 1000000000))) t354 ([] : List (S45)))) = some r := H
         have A31 := Aside0.mk A310
         clear A310
         have HC32 := Aside0.mk H
         clear H
         go_upto_if 97 with (first | (go_at_call 23; (with_reducible refine (slotmeshref26_Of.calls k2 (fun k_ => k_ < w.heap.size) _ _ l0 (Int.tmod (wrap64 (a1)) 60) t367 _ ?side1 A31.out).mono ?_); (case side1 => exact Kd.V_mk HC0.out (Kd.F_below (Kd.C_F k45_heap HR0.out) (by repeat (first | (with_reducible first | exact HB.out | apply below_alloc | apply pw_below_drewN | apply below_drew1) | exact HB.out)))); rintro e w33 ⟨v368, rfl, ho0, hb⟩; have n0_ := Aside0.mk (Kd.V_below (by (with_reducible repeat (first | apply Kd.V_alloc | apply Kd.V_drewN | apply Kd.V_drew)); exact HO_13.out) hb); have n1_ := Aside0.mk (Kd.V_below (by (with_reducible repeat (first | apply Kd.V_alloc | apply Kd.V_drewN | apply Kd.V_drew)); exact HO_16.out) hb); have n2_ := Aside0.mk (Kd.V_below (by (with_reducible repeat (first | apply Kd.V_alloc | apply Kd.V_drewN | apply Kd.V_drew)); exact HO_17.out) hb); have n3_ := Aside0.mk (Kd.V_lower (Kd.V_mono (ok' := fun k_ => True) ho0 (fun k_ hk_ => trivial)) (below_size (by repeat (first | (with_reducible first | exact HB.out | apply below_alloc | apply pw_below_drewN | apply below_drew1) | exact HB.out)))); have n4_ := Aside0.mk (below_step (by repeat (first | (with_reducible first | exact HB.out | apply below_alloc | apply pw_below_drewN | apply below_drew1) | exact HB.out)) hb); clear HO_13; clear HO_16; clear HO_17; clear HB; have HO_13 := n0_; have HO_16 := n1_; have HO_17 := n2_; have HO369 := n3_; have HB := n4_; clear n0_ n1_ n2_ n3_ n4_; (try clear hb); (try clear hb2); (try clear hk); (try clear hi); (try clear ho0); obtain ⟨Ao34, co34, eo34⟩ := Kd.V_slice HO369.out; subst eo34))
         repeat (go_quiet (first | (go_at_call 23; (with_reducible refine (slotmeshref26_Of.calls k2 (fun k_ => k_ < w.heap.size) _ _ l0 (Int.tmod (wrap64 (a1)) 60) t367 _ ?side1 A31.out).mono ?_); (case side1 => exact Kd.V_mk HC0.out (Kd.F_below (Kd.C_F k45_heap HR0.out) (by repeat (first | (with_reducible first | exact HB.out | apply below_alloc | apply pw_below_drewN | apply below_drew1) | exact HB.out)))); rintro e w33 ⟨v368, rfl, ho0, hb⟩; have n0_ := Aside0.mk (Kd.V_below (by (with_reducible repeat (first | apply Kd.V_alloc | apply Kd.V_drewN | apply Kd.V_drew)); exact HO_13.out) hb); have n1_ := Aside0.mk (Kd.V_below (by (with_reducible repeat (first | apply Kd.V_alloc | apply Kd.V_drewN | apply Kd.V_drew)); exact HO_16.out) hb); have n2_ := Aside0.mk (Kd.V_below (by (with_reducible repeat (first | apply Kd.V_alloc | apply Kd.V_drewN | apply Kd.V_drew)); exact HO_17.out) hb); have n3_ := Aside0.mk (Kd.V_lower (Kd.V_mono (ok' := fun k_ => True) ho0 (fun k_ hk_ => trivial)) (below_size (by repeat (first | (with_reducible first | exact HB.out | apply below_alloc | apply pw_below_drewN | apply below_drew1) | exact HB.out)))); have n4_ := Aside0.mk (below_step (by repeat (first | (with_reducible first | exact HB.out | apply below_alloc | apply pw_below_drewN | apply below_drew1) | exact HB.out)) hb); clear HO_13; clear HO_16; clear HO_17; clear HB; have HO_13 := n0_; have HO_16 := n1_; have HO_17 := n2_; have HO369 := n3_; have HB := n4_; clear n0_ n1_ n2_ n3_ n4_; (try clear hb); (try clear hb2); (try clear hk); (try clear hi); (try clear ho0); obtain ⟨Ao34, co34, eo34⟩ := Kd.V_slice HO369.out; subst eo34)); go_upto_if 97 with (first | (go_at_call 23; (with_reducible refine (slotmeshref26_Of.calls k2 (fun k_ => k_ < w.heap.size) _ _ l0 (Int.tmod (wrap64 (a1)) 60) t367 _ ?side1 A31.out).mono ?_); (case side1 => exact Kd.V_mk HC0.out (Kd.F_below (Kd.C_F k45_heap HR0.out) (by repeat (first | (with_reducible first | exact HB.out | apply below_alloc | apply pw_below_drewN | apply below_drew1) | exact HB.out)))); rintro e w33 ⟨v368, rfl, ho0, hb⟩; have n0_ := Aside0.mk (Kd.V_below (by (with_reducible repeat (first | apply Kd.V_alloc | apply Kd.V_drewN | apply Kd.V_drew)); exact HO_13.out) hb); have n1_ := Aside0.mk (Kd.V_below (by (with_reducible repeat (first | apply Kd.V_alloc | apply Kd.V_drewN | apply Kd.V_drew)); exact HO_16.out) hb); have n2_ := Aside0.mk (Kd.V_below (by (with_reducible repeat (first | apply Kd.V_alloc | apply Kd.V_drewN | apply Kd.V_drew)); exact HO_17.out) hb); have n3_ := Aside0.mk (Kd.V_lower (Kd.V_mono (ok' := fun k_ => True) ho0 (fun k_ hk_ => trivial)) (below_size (by repeat (first | (with_reducible first | exact HB.out | apply below_alloc | apply pw_below_drewN | apply below_drew1) | exact HB.out)))); have n4_ := Aside0.mk (below_step (by repeat (first | (with_reducible first | exact HB.out | apply below_alloc | apply pw_below_drewN | apply below_drew1) | exact HB.out)) hb); clear HO_13; clear HO_16; clear HO_17; clear HB; have HO_13 := n0_; have HO_16 := n1_; have HO_17 := n2_; have HO369 := n3_; have HB := n4_; clear n0_ n1_ n2_ n3_ n4_; (try clear hb); (try clear hb2); (try clear hk); (try clear hi); (try clear ho0); obtain ⟨Ao34, co34, eo34⟩ := Kd.V_slice HO369.out; subst eo34)))
         (try simp only [Act.put, List.setIfInBounds_toArray, List.set_cons_zero, List.set_cons_succ])
         go_cut [19] (fun v19 wc => ∃ (kq : Nat) (x19_31 : List (S45)), Aside0 (slotmeshlaw26_SeenOrigins.j2 kq t351 (Int.tmod (wrap64 (a1)) 60) (wrap64 (1 + (Int.tmod (wrap64 (a2)) 1000000000))) t354 x19_31 = some r) ∧ Aside0 (kq ≤ k2) ∧ Aside0 (Kd.V k45 45 wc w.heap.size (fun k_ => some k_ ≠ (v19 : Value).ownBlock) (.slice Ao22 t354.length co22) t354) ∧ Aside0 (Kd.N k45 45 wc w.heap.size (fun _ => True) v19 x19_31) ∧ Aside0 (Below w.heap.size w wc))
         case first =>
          have H := HC32.out
          clear HC32
          by_cases c35 : (t367.length : Int) > 0
          ·rw [if_pos c35] at H
           have c35b0 : decide (0 < (t367.length : Int)) = true := decide_eq_true c35
           have c35b1 : decide (0 < t367.length) = true := decide_eq_true (by omega)
           have c35p : 0 < t367.length := of_decide_eq_true c35b1
           clear c35
           (first | rw [c35b0] | (simp only [i64_w, i32_w]; rw [c35b0]) | skip)
           replace H := Option.bind_eq_some_iff.mp H
           obtain ⟨t370, A360, H⟩ := H
           replace H : (slotmeshlaw26_SeenOrigins.j2 k2 t351 (Int.tmod (wrap64 (a1)) 60) (wrap64 (1 + (Int.tmod (wrap64 (a2)) 1000000000))) t354 t370) = some r := H
           have A36 := Aside0.mk A360
           clear A360
           have H' := Aside0.mk H
           clear H
           go_wp2_with (first | (go_at_call 24; (with_reducible refine (slotmeshlaw26_of.calls (Int.tmod (wrap64 (a1)) 60) (fun k_ => True) _ _ t367 t370 _ ?side1 A36.out).mono ?_); (case side1 => exact HO369.out); rintro e w37 ⟨v371, rfl, ho0, hb⟩; have n0_ := Aside0.mk (Kd.V_elder' (by (with_reducible repeat (first | apply Kd.V_alloc | apply Kd.V_drewN | apply Kd.V_drew)); exact HO_13.out) (Kd.N_base ho0) hb); have n1_ := Aside0.mk (Kd.V_elder' (by (with_reducible repeat (first | apply Kd.V_alloc | apply Kd.V_drewN | apply Kd.V_drew)); exact HO_16.out) (Kd.N_base ho0) hb); have n2_ := Aside0.mk (Kd.V_elder' (by (with_reducible repeat (first | apply Kd.V_alloc | apply Kd.V_drewN | apply Kd.V_drew)); exact HO_17.out) (Kd.N_base ho0) hb); have n3_ := Aside0.mk (Kd.V_elder' (by (with_reducible repeat (first | apply Kd.V_alloc | apply Kd.V_drewN | apply Kd.V_drew)); exact HO369.out) (Kd.N_base ho0) hb); have n4_ := Aside0.mk (Kd.N_lower (Kd.N_mono (ok' := fun k_ => True) ho0 (fun k_ hk_ => trivial)) (below_size (by repeat (first | (with_reducible first | exact HB.out | apply below_alloc | apply pw_below_drewN | apply below_drew1) | exact HB.out)))); have n5_ := Aside0.mk (below_step (by repeat (first | (with_reducible first | exact HB.out | apply below_alloc | apply pw_below_drewN | apply below_drew1) | exact HB.out)) hb); clear HO_13; clear HO_16; clear HO_17; clear HO369; clear HB; have HO_13 := n0_; have HO_16 := n1_; have HO_17 := n2_; have HO369 := n3_; have HO372 := n4_; have HB := n5_; clear n0_ n1_ n2_ n3_ n4_ n5_; (try clear hb); (try clear hb2); (try clear hk); (try clear hi); (try clear ho0)))
           repeat (go_quiet (first | (go_at_call 24; (with_reducible refine (slotmeshlaw26_of.calls (Int.tmod (wrap64 (a1)) 60) (fun k_ => True) _ _ t367 t370 _ ?side1 A36.out).mono ?_); (case side1 => exact HO369.out); rintro e w37 ⟨v371, rfl, ho0, hb⟩; have n0_ := Aside0.mk (Kd.V_elder' (by (with_reducible repeat (first | apply Kd.V_alloc | apply Kd.V_drewN | apply Kd.V_drew)); exact HO_13.out) (Kd.N_base ho0) hb); have n1_ := Aside0.mk (Kd.V_elder' (by (with_reducible repeat (first | apply Kd.V_alloc | apply Kd.V_drewN | apply Kd.V_drew)); exact HO_16.out) (Kd.N_base ho0) hb); have n2_ := Aside0.mk (Kd.V_elder' (by (with_reducible repeat (first | apply Kd.V_alloc | apply Kd.V_drewN | apply Kd.V_drew)); exact HO_17.out) (Kd.N_base ho0) hb); have n3_ := Aside0.mk (Kd.V_elder' (by (with_reducible repeat (first | apply Kd.V_alloc | apply Kd.V_drewN | apply Kd.V_drew)); exact HO369.out) (Kd.N_base ho0) hb); have n4_ := Aside0.mk (Kd.N_lower (Kd.N_mono (ok' := fun k_ => True) ho0 (fun k_ hk_ => trivial)) (below_size (by repeat (first | (with_reducible first | exact HB.out | apply below_alloc | apply pw_below_drewN | apply below_drew1) | exact HB.out)))); have n5_ := Aside0.mk (below_step (by repeat (first | (with_reducible first | exact HB.out | apply below_alloc | apply pw_below_drewN | apply below_drew1) | exact HB.out)) hb); clear HO_13; clear HO_16; clear HO_17; clear HO369; clear HB; have HO_13 := n0_; have HO_16 := n1_; have HO_17 := n2_; have HO369 := n3_; have HO372 := n4_; have HB := n5_; clear n0_ n1_ n2_ n3_ n4_ n5_; (try clear hb); (try clear hb2); (try clear hk); (try clear hi); (try clear ho0))); try go_wp2_with (first | (go_at_call 24; (with_reducible refine (slotmeshlaw26_of.calls (Int.tmod (wrap64 (a1)) 60) (fun k_ => True) _ _ t367 t370 _ ?side1 A36.out).mono ?_); (case side1 => exact HO369.out); rintro e w37 ⟨v371, rfl, ho0, hb⟩; have n0_ := Aside0.mk (Kd.V_elder' (by (with_reducible repeat (first | apply Kd.V_alloc | apply Kd.V_drewN | apply Kd.V_drew)); exact HO_13.out) (Kd.N_base ho0) hb); have n1_ := Aside0.mk (Kd.V_elder' (by (with_reducible repeat (first | apply Kd.V_alloc | apply Kd.V_drewN | apply Kd.V_drew)); exact HO_16.out) (Kd.N_base ho0) hb); have n2_ := Aside0.mk (Kd.V_elder' (by (with_reducible repeat (first | apply Kd.V_alloc | apply Kd.V_drewN | apply Kd.V_drew)); exact HO_17.out) (Kd.N_base ho0) hb); have n3_ := Aside0.mk (Kd.V_elder' (by (with_reducible repeat (first | apply Kd.V_alloc | apply Kd.V_drewN | apply Kd.V_drew)); exact HO369.out) (Kd.N_base ho0) hb); have n4_ := Aside0.mk (Kd.N_lower (Kd.N_mono (ok' := fun k_ => True) ho0 (fun k_ hk_ => trivial)) (below_size (by repeat (first | (with_reducible first | exact HB.out | apply below_alloc | apply pw_below_drewN | apply below_drew1) | exact HB.out)))); have n5_ := Aside0.mk (below_step (by repeat (first | (with_reducible first | exact HB.out | apply below_alloc | apply pw_below_drewN | apply below_drew1) | exact HB.out)) hb); clear HO_13; clear HO_16; clear HO_17; clear HO369; clear HB; have HO_13 := n0_; have HO_16 := n1_; have HO_17 := n2_; have HO369 := n3_; have HO372 := n4_; have HB := n5_; clear n0_ n1_ n2_ n3_ n4_ n5_; (try clear hb); (try clear hb2); (try clear hk); (try clear hi); (try clear ho0))))
           go_meet
           case rel => exact ⟨_, (t370), H', ⟨by have := HJ5.out; have := HK2.out; first | omega | exact Nat.le_refl _⟩, ⟨by (with_reducible repeat (first | apply Kd.V_alloc | apply Kd.V_drewN | apply Kd.V_drew)); exact Kd.V_mono HO_13.out (fun _ hk => hk.2)⟩, ⟨by (with_reducible repeat (first | apply Kd.N_alloc | apply Kd.N_drewN | apply Kd.N_drew)); exact HO372.out⟩, ⟨by repeat (first | (with_reducible first | exact HB.out | apply below_alloc | apply pw_below_drewN | apply below_drew1) | exact HB.out)⟩⟩
          ·rw [if_neg c35] at H
           have c35b0 : decide (0 < (t367.length : Int)) = false := decide_eq_false c35
           have c35b1 : decide (0 < t367.length) = false := decide_eq_false (by omega)
           have c35p : t367.length = 0 := by have := of_decide_eq_false c35b1; omega
           clear c35
           (first | rw [c35b0] | (simp only [i64_w, i32_w]; rw [c35b0]) | skip)
           have H' := Aside0.mk H
           clear H
           go_wp2
           repeat (go_quiet (fail); try go_wp2)
           go_meet
           case rel => exact ⟨_, (([] : List (S45))), H', ⟨by have := HJ5.out; have := HK2.out; first | omega | exact Nat.le_refl _⟩, ⟨by (with_reducible repeat (first | apply Kd.V_alloc | apply Kd.V_drewN | apply Kd.V_drew)); exact Kd.V_mono HO_13.out (fun _ hk => (by simp [Value.ownBlock]))⟩, ⟨by first | exact Kd.S_nil _ _ _ _ _ | exact Kd.N_nil _ _ _ _ _ | exact Kd.V_nil _ _ _ _ _ | exact Kd.Q_nil _ _ _ _ _ | exact Kd.R_nil _ _ _ _ _⟩, ⟨by repeat (first | (with_reducible first | exact HB.out | apply below_alloc | apply pw_below_drewN | apply below_drew1) | exact HB.out)⟩⟩
         case rest =>
          clear HC32
          try clear c1
          try clear c2
          try clear p2
          try clear c3
          try clear p3
          try clear q3
          try clear hx3
          try clear p6
          try clear c8
          try clear c9
          try clear c11
          try clear c14
          try clear c16
          try clear c16b0
          try clear c16b1
          try clear c19
          try clear c19b0
          try clear c19b1
          try clear c19b2
          try clear c26
          try clear c26b0
          try clear c27
          try clear c27b0
          try clear c28
          try clear c28b0
          try clear c29
          try clear c29b0
          try clear c30
          try clear c30b0
          try clear c35
          try clear c35b0
          try clear c35b1
          try clear p36
          try clear q36
          try clear hx36
          try clear hx365_0
          try clear hx365_1
          try clear hx366_0
          try clear hx366_1
          try clear p2
          try clear p365
          try clear p366
          try clear p6
          try clear q365
          try clear q366
          obtain ⟨kq, x19_31, HA, HJ31, HO_13, HO_19, HB⟩ := hcut
          cases kq with
          | zero => exact absurd HA.out (by simp [slotmeshlaw26_SeenOrigins.j2])
          | succ kj31 =>
           have H := HA.out
           clear HA
           simp only [slotmeshlaw26_SeenOrigins.j2] at H
           replace H := Option.bind_eq_some_iff.mp H
           obtain ⟨⟨t373, t376, t377⟩, A380, H⟩ := H
           replace H : (if t351 = true then (if t377 = 0 then ((slotmeshref26_Of.f kj31 t354 (Int.tmod (wrap64 (a1)) 60)).bind fun t378 => ((slotmeshlaw26_of.f (Int.tmod (wrap64 (a1)) 60) t378).bind fun t381 => ((slotmeshref26_Same.f kj31 t373 t381).bind fun t384 => (some t384)))) else (some false)) else (some false)) = some r := H
           have A38 := Aside0.mk A380
           clear A380
           by_cases c39 : t351 = true
           ·subst c39
            have H1 : (if t377 = 0 then ((slotmeshref26_Of.f kj31 t354 (Int.tmod (wrap64 (a1)) 60)).bind fun t378 => ((slotmeshlaw26_of.f (Int.tmod (wrap64 (a1)) 60) t378).bind fun t381 => ((slotmeshref26_Same.f kj31 t373 t381).bind fun t384 => (some t384)))) else (some false)) = some r := by rw [if_pos rfl] at H; exact H
            clear H
            have H := H1
            clear H1
            by_cases c40 : t377 = 0
            ·rw [if_pos c40] at H
             have c40b0 : (t377 == 0) = true := beq_iff_eq.mpr c40
             have c40b1 : (t377 != 0) = false := bne_eq_false_iff_eq.mpr c40
             clear c40
             replace H := Option.bind_eq_some_iff.mp H
             obtain ⟨t378, A410, H⟩ := H
             replace H : ((slotmeshlaw26_of.f (Int.tmod (wrap64 (a1)) 60) t378).bind fun t381 => ((slotmeshref26_Same.f kj31 t373 t381).bind fun t384 => (some t384))) = some r := H
             have A41 := Aside0.mk A410
             clear A410
             replace H := Option.bind_eq_some_iff.mp H
             obtain ⟨t381, A420, H⟩ := H
             replace H : ((slotmeshref26_Same.f kj31 t373 t381).bind fun t384 => (some t384)) = some r := H
             have A42 := Aside0.mk A420
             clear A420
             replace H := Option.bind_eq_some_iff.mp H
             obtain ⟨t384, A430, H⟩ := H
             replace H : (some t384) = some r := H
             have A43 := Aside0.mk A430
             clear A430
             obtain rfl := Option.some.inj H
             obtain ⟨Ao44, co44, eo44⟩ := Kd.N_slice HO_19.out
             subst eo44
             go_wp2_with (first | (go_at_call 11; (with_reducible refine (seen_Add.calls kj31 (fun k_ => True) _ _ x19_31 (Int.tmod (wrap64 (a1)) 60) (wrap64 (1 + (Int.tmod (wrap64 (a2)) 1000000000))) t373 t376 t377 _ ?side1 A38.out).mono ?_); (case side1 => exact Kd.N_V (HO_19.out)); rintro e w45 ⟨v374, rfl, ho0, hb⟩; have n0_ := Aside0.mk (Kd.V_below (by (with_reducible repeat (first | apply Kd.V_alloc | apply Kd.V_drewN | apply Kd.V_drew)); exact HO_13.out) hb); have n1_ := Aside0.mk (Kd.N_below (by (with_reducible repeat (first | apply Kd.N_alloc | apply Kd.N_drewN | apply Kd.N_drew)); exact HO_19.out) hb); have n2_ := Aside0.mk (Kd.V_lower (Kd.V_mono (ok' := fun k_ => True) ho0 (fun k_ hk_ => trivial)) (below_size (by repeat (first | (with_reducible first | exact HB.out | apply below_alloc | apply pw_below_drewN | apply below_drew1) | exact HB.out)))); have n3_ := Aside0.mk (below_step (by repeat (first | (with_reducible first | exact HB.out | apply below_alloc | apply pw_below_drewN | apply below_drew1) | exact HB.out)) hb); clear HO_13; clear HO_19; clear HB; have HO_13 := n0_; have HO_19 := n1_; have HO375 := n2_; have HB := n3_; clear n0_ n1_ n2_ n3_; (try clear hb); (try clear hb2); (try clear hk); (try clear hi); (try clear ho0)) | (go_at_call 23; (with_reducible refine (slotmeshref26_Of.calls kj31 (fun k_ => some k_ ≠ (.slice Ao44 x19_31.length co44 : Value).ownBlock) _ _ t354 (Int.tmod (wrap64 (a1)) 60) t378 _ ?side1 A41.out).mono ?_); (case side1 => exact HO_13.out); rintro e w46 ⟨v379, rfl, ho0, hb⟩; have n0_ := Aside0.mk (Kd.V_below (by (with_reducible repeat (first | apply Kd.V_alloc | apply Kd.V_drewN | apply Kd.V_drew)); exact HO_13.out) hb); have n1_ := Aside0.mk (Kd.N_below (by (with_reducible repeat (first | apply Kd.N_alloc | apply Kd.N_drewN | apply Kd.N_drew)); exact HO_19.out) hb); have n2_ := Aside0.mk (Kd.V_below (by (with_reducible repeat (first | apply Kd.V_alloc | apply Kd.V_drewN | apply Kd.V_drew)); exact HO375.out) hb); have n3_ := Aside0.mk (Kd.V_lower (Kd.V_mono (ok' := fun k_ => some k_ ≠ (.slice Ao44 x19_31.length co44 : Value).ownBlock) ho0 (fun k_ hk_ => Or.elim hk_ (fun hs_ => hs_) (fun hn_ => (Kd.fresh' (Kd.N_lt (by (with_reducible repeat (first | apply Kd.N_alloc | apply Kd.N_drewN | apply Kd.N_drew)); exact HO_19.out)) k_ hn_)))) (below_size (by repeat (first | (with_reducible first | exact HB.out | apply below_alloc | apply pw_below_drewN | apply below_drew1) | exact HB.out)))); have n4_ := Aside0.mk (below_step (by repeat (first | (with_reducible first | exact HB.out | apply below_alloc | apply pw_below_drewN | apply below_drew1) | exact HB.out)) hb); clear HO_13; clear HO_19; clear HO375; clear HB; have HO_13 := n0_; have HO_19 := n1_; have HO375 := n2_; have HO380 := n3_; have HB := n4_; clear n0_ n1_ n2_ n3_ n4_; (try clear hb); (try clear hb2); (try clear hk); (try clear hi); (try clear ho0); obtain ⟨Ao47, co47, eo47⟩ := Kd.V_slice HO380.out; subst eo47) | (go_at_call 24; (with_reducible refine (slotmeshlaw26_of.calls (Int.tmod (wrap64 (a1)) 60) (fun k_ => some k_ ≠ (.slice Ao44 x19_31.length co44 : Value).ownBlock) _ _ t378 t381 _ ?side1 A42.out).mono ?_); (case side1 => exact HO380.out); rintro e w48 ⟨v382, rfl, ho0, hb⟩; have n0_ := Aside0.mk (Kd.V_elder' (by (with_reducible repeat (first | apply Kd.V_alloc | apply Kd.V_drewN | apply Kd.V_drew)); exact HO_13.out) (Kd.N_base ho0) hb); have n1_ := Aside0.mk (Kd.N_elder' (by (with_reducible repeat (first | apply Kd.N_alloc | apply Kd.N_drewN | apply Kd.N_drew)); exact HO_19.out) (Kd.N_base ho0) hb); have n2_ := Aside0.mk (Kd.V_elder' (by (with_reducible repeat (first | apply Kd.V_alloc | apply Kd.V_drewN | apply Kd.V_drew)); exact HO375.out) (Kd.N_base ho0) hb); have n3_ := Aside0.mk (Kd.V_elder' (by (with_reducible repeat (first | apply Kd.V_alloc | apply Kd.V_drewN | apply Kd.V_drew)); exact HO380.out) (Kd.N_base ho0) hb); have n4_ := Aside0.mk (Kd.N_lower (Kd.N_mono (ok' := fun k_ => some k_ ≠ (.slice Ao44 x19_31.length co44 : Value).ownBlock) ho0 (fun k_ hk_ => Or.elim hk_ (fun hs_ => hs_) (fun hn_ => (Kd.fresh' (Kd.N_lt (by (with_reducible repeat (first | apply Kd.N_alloc | apply Kd.N_drewN | apply Kd.N_drew)); exact HO_19.out)) k_ hn_)))) (below_size (by repeat (first | (with_reducible first | exact HB.out | apply below_alloc | apply pw_below_drewN | apply below_drew1) | exact HB.out)))); have n5_ := Aside0.mk (below_step (by repeat (first | (with_reducible first | exact HB.out | apply below_alloc | apply pw_below_drewN | apply below_drew1) | exact HB.out)) hb); clear HO_13; clear HO_19; clear HO375; clear HO380; clear HB; have HO_13 := n0_; have HO_19 := n1_; have HO375 := n2_; have HO380 := n3_; have HO383 := n4_; have HB := n5_; clear n0_ n1_ n2_ n3_ n4_ n5_; (try clear hb); (try clear hb2); (try clear hk); (try clear hi); (try clear ho0); obtain ⟨Ao49, co49, eo49⟩ := Kd.V_slice HO375.out; subst eo49; obtain ⟨Ao50, co50, eo50⟩ := Kd.N_slice HO383.out; subst eo50) | (go_at_call 17; (with_reducible refine (slotmeshref26_Same.calls kj31 _ _ t373 _ _ t381 t384 _ ?side1 ?side2 ?side3 ?side4 A43.out).mono ?_); (case side1 => repeat (first | exact (Kd.V_reads' HO375.out).2.2 | (with_reducible refine Kd.C_alloc ?_ _) | (with_reducible refine Kd.C_drewN ?_ _) | (with_reducible refine Kd.C_drew ?_))); (case side2 => exact (Kd.V_reads' HO375.out).2.1); (case side3 => repeat (first | exact (Kd.N_reads' HO383.out).2.2 | (with_reducible refine Kd.C_alloc ?_ _) | (with_reducible refine Kd.C_drewN ?_ _) | (with_reducible refine Kd.C_drew ?_))); (case side4 => exact (Kd.N_reads' HO383.out).2.1); rintro e w' ⟨rfl, ⟨nd, rfl⟩⟩; (try first | exact ⟨rfl, _, World.drewN_drewN _ _ _⟩ | exact ⟨rfl, _, Eq.trans (World.drewN_drewN _ _ _) (congrArg (World.drewN _) (Nat.add_assoc _ _ _))⟩)))
             repeat (go_quiet (first | (go_at_call 11; (with_reducible refine (seen_Add.calls kj31 (fun k_ => True) _ _ x19_31 (Int.tmod (wrap64 (a1)) 60) (wrap64 (1 + (Int.tmod (wrap64 (a2)) 1000000000))) t373 t376 t377 _ ?side1 A38.out).mono ?_); (case side1 => exact Kd.N_V (HO_19.out)); rintro e w45 ⟨v374, rfl, ho0, hb⟩; have n0_ := Aside0.mk (Kd.V_below (by (with_reducible repeat (first | apply Kd.V_alloc | apply Kd.V_drewN | apply Kd.V_drew)); exact HO_13.out) hb); have n1_ := Aside0.mk (Kd.N_below (by (with_reducible repeat (first | apply Kd.N_alloc | apply Kd.N_drewN | apply Kd.N_drew)); exact HO_19.out) hb); have n2_ := Aside0.mk (Kd.V_lower (Kd.V_mono (ok' := fun k_ => True) ho0 (fun k_ hk_ => trivial)) (below_size (by repeat (first | (with_reducible first | exact HB.out | apply below_alloc | apply pw_below_drewN | apply below_drew1) | exact HB.out)))); have n3_ := Aside0.mk (below_step (by repeat (first | (with_reducible first | exact HB.out | apply below_alloc | apply pw_below_drewN | apply below_drew1) | exact HB.out)) hb); clear HO_13; clear HO_19; clear HB; have HO_13 := n0_; have HO_19 := n1_; have HO375 := n2_; have HB := n3_; clear n0_ n1_ n2_ n3_; (try clear hb); (try clear hb2); (try clear hk); (try clear hi); (try clear ho0)) | (go_at_call 23; (with_reducible refine (slotmeshref26_Of.calls kj31 (fun k_ => some k_ ≠ (.slice Ao44 x19_31.length co44 : Value).ownBlock) _ _ t354 (Int.tmod (wrap64 (a1)) 60) t378 _ ?side1 A41.out).mono ?_); (case side1 => exact HO_13.out); rintro e w46 ⟨v379, rfl, ho0, hb⟩; have n0_ := Aside0.mk (Kd.V_below (by (with_reducible repeat (first | apply Kd.V_alloc | apply Kd.V_drewN | apply Kd.V_drew)); exact HO_13.out) hb); have n1_ := Aside0.mk (Kd.N_below (by (with_reducible repeat (first | apply Kd.N_alloc | apply Kd.N_drewN | apply Kd.N_drew)); exact HO_19.out) hb); have n2_ := Aside0.mk (Kd.V_below (by (with_reducible repeat (first | apply Kd.V_alloc | apply Kd.V_drewN | apply Kd.V_drew)); exact HO375.out) hb); have n3_ := Aside0.mk (Kd.V_lower (Kd.V_mono (ok' := fun k_ => some k_ ≠ (.slice Ao44 x19_31.length co44 : Value).ownBlock) ho0 (fun k_ hk_ => Or.elim hk_ (fun hs_ => hs_) (fun hn_ => (Kd.fresh' (Kd.N_lt (by (with_reducible repeat (first | apply Kd.N_alloc | apply Kd.N_drewN | apply Kd.N_drew)); exact HO_19.out)) k_ hn_)))) (below_size (by repeat (first | (with_reducible first | exact HB.out | apply below_alloc | apply pw_below_drewN | apply below_drew1) | exact HB.out)))); have n4_ := Aside0.mk (below_step (by repeat (first | (with_reducible first | exact HB.out | apply below_alloc | apply pw_below_drewN | apply below_drew1) | exact HB.out)) hb); clear HO_13; clear HO_19; clear HO375; clear HB; have HO_13 := n0_; have HO_19 := n1_; have HO375 := n2_; have HO380 := n3_; have HB := n4_; clear n0_ n1_ n2_ n3_ n4_; (try clear hb); (try clear hb2); (try clear hk); (try clear hi); (try clear ho0); obtain ⟨Ao47, co47, eo47⟩ := Kd.V_slice HO380.out; subst eo47) | (go_at_call 24; (with_reducible refine (slotmeshlaw26_of.calls (Int.tmod (wrap64 (a1)) 60) (fun k_ => some k_ ≠ (.slice Ao44 x19_31.length co44 : Value).ownBlock) _ _ t378 t381 _ ?side1 A42.out).mono ?_); (case side1 => exact HO380.out); rintro e w48 ⟨v382, rfl, ho0, hb⟩; have n0_ := Aside0.mk (Kd.V_elder' (by (with_reducible repeat (first | apply Kd.V_alloc | apply Kd.V_drewN | apply Kd.V_drew)); exact HO_13.out) (Kd.N_base ho0) hb); have n1_ := Aside0.mk (Kd.N_elder' (by (with_reducible repeat (first | apply Kd.N_alloc | apply Kd.N_drewN | apply Kd.N_drew)); exact HO_19.out) (Kd.N_base ho0) hb); have n2_ := Aside0.mk (Kd.V_elder' (by (with_reducible repeat (first | apply Kd.V_alloc | apply Kd.V_drewN | apply Kd.V_drew)); exact HO375.out) (Kd.N_base ho0) hb); have n3_ := Aside0.mk (Kd.V_elder' (by (with_reducible repeat (first | apply Kd.V_alloc | apply Kd.V_drewN | apply Kd.V_drew)); exact HO380.out) (Kd.N_base ho0) hb); have n4_ := Aside0.mk (Kd.N_lower (Kd.N_mono (ok' := fun k_ => some k_ ≠ (.slice Ao44 x19_31.length co44 : Value).ownBlock) ho0 (fun k_ hk_ => Or.elim hk_ (fun hs_ => hs_) (fun hn_ => (Kd.fresh' (Kd.N_lt (by (with_reducible repeat (first | apply Kd.N_alloc | apply Kd.N_drewN | apply Kd.N_drew)); exact HO_19.out)) k_ hn_)))) (below_size (by repeat (first | (with_reducible first | exact HB.out | apply below_alloc | apply pw_below_drewN | apply below_drew1) | exact HB.out)))); have n5_ := Aside0.mk (below_step (by repeat (first | (with_reducible first | exact HB.out | apply below_alloc | apply pw_below_drewN | apply below_drew1) | exact HB.out)) hb); clear HO_13; clear HO_19; clear HO375; clear HO380; clear HB; have HO_13 := n0_; have HO_19 := n1_; have HO375 := n2_; have HO380 := n3_; have HO383 := n4_; have HB := n5_; clear n0_ n1_ n2_ n3_ n4_ n5_; (try clear hb); (try clear hb2); (try clear hk); (try clear hi); (try clear ho0); obtain ⟨Ao49, co49, eo49⟩ := Kd.V_slice HO375.out; subst eo49; obtain ⟨Ao50, co50, eo50⟩ := Kd.N_slice HO383.out; subst eo50) | (go_at_call 17; (with_reducible refine (slotmeshref26_Same.calls kj31 _ _ t373 _ _ t381 t384 _ ?side1 ?side2 ?side3 ?side4 A43.out).mono ?_); (case side1 => repeat (first | exact (Kd.V_reads' HO375.out).2.2 | (with_reducible refine Kd.C_alloc ?_ _) | (with_reducible refine Kd.C_drewN ?_ _) | (with_reducible refine Kd.C_drew ?_))); (case side2 => exact (Kd.V_reads' HO375.out).2.1); (case side3 => repeat (first | exact (Kd.N_reads' HO383.out).2.2 | (with_reducible refine Kd.C_alloc ?_ _) | (with_reducible refine Kd.C_drewN ?_ _) | (with_reducible refine Kd.C_drew ?_))); (case side4 => exact (Kd.N_reads' HO383.out).2.1); rintro e w' ⟨rfl, ⟨nd, rfl⟩⟩; (try first | exact ⟨rfl, _, World.drewN_drewN _ _ _⟩ | exact ⟨rfl, _, Eq.trans (World.drewN_drewN _ _ _) (congrArg (World.drewN _) (Nat.add_assoc _ _ _))⟩))); try go_wp2_with (first | (go_at_call 11; (with_reducible refine (seen_Add.calls kj31 (fun k_ => True) _ _ x19_31 (Int.tmod (wrap64 (a1)) 60) (wrap64 (1 + (Int.tmod (wrap64 (a2)) 1000000000))) t373 t376 t377 _ ?side1 A38.out).mono ?_); (case side1 => exact Kd.N_V (HO_19.out)); rintro e w45 ⟨v374, rfl, ho0, hb⟩; have n0_ := Aside0.mk (Kd.V_below (by (with_reducible repeat (first | apply Kd.V_alloc | apply Kd.V_drewN | apply Kd.V_drew)); exact HO_13.out) hb); have n1_ := Aside0.mk (Kd.N_below (by (with_reducible repeat (first | apply Kd.N_alloc | apply Kd.N_drewN | apply Kd.N_drew)); exact HO_19.out) hb); have n2_ := Aside0.mk (Kd.V_lower (Kd.V_mono (ok' := fun k_ => True) ho0 (fun k_ hk_ => trivial)) (below_size (by repeat (first | (with_reducible first | exact HB.out | apply below_alloc | apply pw_below_drewN | apply below_drew1) | exact HB.out)))); have n3_ := Aside0.mk (below_step (by repeat (first | (with_reducible first | exact HB.out | apply below_alloc | apply pw_below_drewN | apply below_drew1) | exact HB.out)) hb); clear HO_13; clear HO_19; clear HB; have HO_13 := n0_; have HO_19 := n1_; have HO375 := n2_; have HB := n3_; clear n0_ n1_ n2_ n3_; (try clear hb); (try clear hb2); (try clear hk); (try clear hi); (try clear ho0)) | (go_at_call 23; (with_reducible refine (slotmeshref26_Of.calls kj31 (fun k_ => some k_ ≠ (.slice Ao44 x19_31.length co44 : Value).ownBlock) _ _ t354 (Int.tmod (wrap64 (a1)) 60) t378 _ ?side1 A41.out).mono ?_); (case side1 => exact HO_13.out); rintro e w46 ⟨v379, rfl, ho0, hb⟩; have n0_ := Aside0.mk (Kd.V_below (by (with_reducible repeat (first | apply Kd.V_alloc | apply Kd.V_drewN | apply Kd.V_drew)); exact HO_13.out) hb); have n1_ := Aside0.mk (Kd.N_below (by (with_reducible repeat (first | apply Kd.N_alloc | apply Kd.N_drewN | apply Kd.N_drew)); exact HO_19.out) hb); have n2_ := Aside0.mk (Kd.V_below (by (with_reducible repeat (first | apply Kd.V_alloc | apply Kd.V_drewN | apply Kd.V_drew)); exact HO375.out) hb); have n3_ := Aside0.mk (Kd.V_lower (Kd.V_mono (ok' := fun k_ => some k_ ≠ (.slice Ao44 x19_31.length co44 : Value).ownBlock) ho0 (fun k_ hk_ => Or.elim hk_ (fun hs_ => hs_) (fun hn_ => (Kd.fresh' (Kd.N_lt (by (with_reducible repeat (first | apply Kd.N_alloc | apply Kd.N_drewN | apply Kd.N_drew)); exact HO_19.out)) k_ hn_)))) (below_size (by repeat (first | (with_reducible first | exact HB.out | apply below_alloc | apply pw_below_drewN | apply below_drew1) | exact HB.out)))); have n4_ := Aside0.mk (below_step (by repeat (first | (with_reducible first | exact HB.out | apply below_alloc | apply pw_below_drewN | apply below_drew1) | exact HB.out)) hb); clear HO_13; clear HO_19; clear HO375; clear HB; have HO_13 := n0_; have HO_19 := n1_; have HO375 := n2_; have HO380 := n3_; have HB := n4_; clear n0_ n1_ n2_ n3_ n4_; (try clear hb); (try clear hb2); (try clear hk); (try clear hi); (try clear ho0); obtain ⟨Ao47, co47, eo47⟩ := Kd.V_slice HO380.out; subst eo47) | (go_at_call 24; (with_reducible refine (slotmeshlaw26_of.calls (Int.tmod (wrap64 (a1)) 60) (fun k_ => some k_ ≠ (.slice Ao44 x19_31.length co44 : Value).ownBlock) _ _ t378 t381 _ ?side1 A42.out).mono ?_); (case side1 => exact HO380.out); rintro e w48 ⟨v382, rfl, ho0, hb⟩; have n0_ := Aside0.mk (Kd.V_elder' (by (with_reducible repeat (first | apply Kd.V_alloc | apply Kd.V_drewN | apply Kd.V_drew)); exact HO_13.out) (Kd.N_base ho0) hb); have n1_ := Aside0.mk (Kd.N_elder' (by (with_reducible repeat (first | apply Kd.N_alloc | apply Kd.N_drewN | apply Kd.N_drew)); exact HO_19.out) (Kd.N_base ho0) hb); have n2_ := Aside0.mk (Kd.V_elder' (by (with_reducible repeat (first | apply Kd.V_alloc | apply Kd.V_drewN | apply Kd.V_drew)); exact HO375.out) (Kd.N_base ho0) hb); have n3_ := Aside0.mk (Kd.V_elder' (by (with_reducible repeat (first | apply Kd.V_alloc | apply Kd.V_drewN | apply Kd.V_drew)); exact HO380.out) (Kd.N_base ho0) hb); have n4_ := Aside0.mk (Kd.N_lower (Kd.N_mono (ok' := fun k_ => some k_ ≠ (.slice Ao44 x19_31.length co44 : Value).ownBlock) ho0 (fun k_ hk_ => Or.elim hk_ (fun hs_ => hs_) (fun hn_ => (Kd.fresh' (Kd.N_lt (by (with_reducible repeat (first | apply Kd.N_alloc | apply Kd.N_drewN | apply Kd.N_drew)); exact HO_19.out)) k_ hn_)))) (below_size (by repeat (first | (with_reducible first | exact HB.out | apply below_alloc | apply pw_below_drewN | apply below_drew1) | exact HB.out)))); have n5_ := Aside0.mk (below_step (by repeat (first | (with_reducible first | exact HB.out | apply below_alloc | apply pw_below_drewN | apply below_drew1) | exact HB.out)) hb); clear HO_13; clear HO_19; clear HO375; clear HO380; clear HB; have HO_13 := n0_; have HO_19 := n1_; have HO375 := n2_; have HO380 := n3_; have HO383 := n4_; have HB := n5_; clear n0_ n1_ n2_ n3_ n4_ n5_; (try clear hb); (try clear hb2); (try clear hk); (try clear hi); (try clear ho0); obtain ⟨Ao49, co49, eo49⟩ := Kd.V_slice HO375.out; subst eo49; obtain ⟨Ao50, co50, eo50⟩ := Kd.N_slice HO383.out; subst eo50) | (go_at_call 17; (with_reducible refine (slotmeshref26_Same.calls kj31 _ _ t373 _ _ t381 t384 _ ?side1 ?side2 ?side3 ?side4 A43.out).mono ?_); (case side1 => repeat (first | exact (Kd.V_reads' HO375.out).2.2 | (with_reducible refine Kd.C_alloc ?_ _) | (with_reducible refine Kd.C_drewN ?_ _) | (with_reducible refine Kd.C_drew ?_))); (case side2 => exact (Kd.V_reads' HO375.out).2.1); (case side3 => repeat (first | exact (Kd.N_reads' HO383.out).2.2 | (with_reducible refine Kd.C_alloc ?_ _) | (with_reducible refine Kd.C_drewN ?_ _) | (with_reducible refine Kd.C_drew ?_))); (case side4 => exact (Kd.N_reads' HO383.out).2.1); rintro e w' ⟨rfl, ⟨nd, rfl⟩⟩; (try first | exact ⟨rfl, _, World.drewN_drewN _ _ _⟩ | exact ⟨rfl, _, Eq.trans (World.drewN_drewN _ _ _) (congrArg (World.drewN _) (Nat.add_assoc _ _ _))⟩))))
             go_ret
             exact ⟨by first | rfl | (simp [errW_none, errW_some] <;> rfl) | (simp [*, errW_none, errW_some] <;> rfl), by repeat (first | (with_reducible first | exact HB.out | apply below_alloc | apply pw_below_drewN | apply below_drew1) | exact HB.out)⟩
            ·rw [if_neg c40] at H
             have c40b0 : (t377 == 0) = false := beq_eq_false_iff_ne.mpr c40
             have c40b1 : (t377 != 0) = true := bne_iff_ne.mpr c40
             obtain rfl := Option.some.inj H
             obtain ⟨Ao51, co51, eo51⟩ := Kd.N_slice HO_19.out
             subst eo51
             go_wp2_with (first | (go_at_call 11; (with_reducible refine (seen_Add.calls kj31 (fun k_ => True) _ _ x19_31 (Int.tmod (wrap64 (a1)) 60) (wrap64 (1 + (Int.tmod (wrap64 (a2)) 1000000000))) t373 t376 t377 _ ?side1 A38.out).mono ?_); (case side1 => exact Kd.N_V (HO_19.out)); rintro e w52 ⟨v374, rfl, ho0, hb⟩; have n0_ := Aside0.mk (Kd.V_below (by (with_reducible repeat (first | apply Kd.V_alloc | apply Kd.V_drewN | apply Kd.V_drew)); exact HO_13.out) hb); have n1_ := Aside0.mk (Kd.N_below (by (with_reducible repeat (first | apply Kd.N_alloc | apply Kd.N_drewN | apply Kd.N_drew)); exact HO_19.out) hb); have n2_ := Aside0.mk (Kd.V_lower (Kd.V_mono (ok' := fun k_ => True) ho0 (fun k_ hk_ => trivial)) (below_size (by repeat (first | (with_reducible first | exact HB.out | apply below_alloc | apply pw_below_drewN | apply below_drew1) | exact HB.out)))); have n3_ := Aside0.mk (below_step (by repeat (first | (with_reducible first | exact HB.out | apply below_alloc | apply pw_below_drewN | apply below_drew1) | exact HB.out)) hb); clear HO_13; clear HO_19; clear HB; have HO_13 := n0_; have HO_19 := n1_; have HO375 := n2_; have HB := n3_; clear n0_ n1_ n2_ n3_; (try clear hb); (try clear hb2); (try clear hk); (try clear hi); (try clear ho0)))
             repeat (go_quiet (first | (go_at_call 11; (with_reducible refine (seen_Add.calls kj31 (fun k_ => True) _ _ x19_31 (Int.tmod (wrap64 (a1)) 60) (wrap64 (1 + (Int.tmod (wrap64 (a2)) 1000000000))) t373 t376 t377 _ ?side1 A38.out).mono ?_); (case side1 => exact Kd.N_V (HO_19.out)); rintro e w52 ⟨v374, rfl, ho0, hb⟩; have n0_ := Aside0.mk (Kd.V_below (by (with_reducible repeat (first | apply Kd.V_alloc | apply Kd.V_drewN | apply Kd.V_drew)); exact HO_13.out) hb); have n1_ := Aside0.mk (Kd.N_below (by (with_reducible repeat (first | apply Kd.N_alloc | apply Kd.N_drewN | apply Kd.N_drew)); exact HO_19.out) hb); have n2_ := Aside0.mk (Kd.V_lower (Kd.V_mono (ok' := fun k_ => True) ho0 (fun k_ hk_ => trivial)) (below_size (by repeat (first | (with_reducible first | exact HB.out | apply below_alloc | apply pw_below_drewN | apply below_drew1) | exact HB.out)))); have n3_ := Aside0.mk (below_step (by repeat (first | (with_reducible first | exact HB.out | apply below_alloc | apply pw_below_drewN | apply below_drew1) | exact HB.out)) hb); clear HO_13; clear HO_19; clear HB; have HO_13 := n0_; have HO_19 := n1_; have HO375 := n2_; have HB := n3_; clear n0_ n1_ n2_ n3_; (try clear hb); (try clear hb2); (try clear hk); (try clear hi); (try clear ho0))); try go_wp2_with (first | (go_at_call 11; (with_reducible refine (seen_Add.calls kj31 (fun k_ => True) _ _ x19_31 (Int.tmod (wrap64 (a1)) 60) (wrap64 (1 + (Int.tmod (wrap64 (a2)) 1000000000))) t373 t376 t377 _ ?side1 A38.out).mono ?_); (case side1 => exact Kd.N_V (HO_19.out)); rintro e w52 ⟨v374, rfl, ho0, hb⟩; have n0_ := Aside0.mk (Kd.V_below (by (with_reducible repeat (first | apply Kd.V_alloc | apply Kd.V_drewN | apply Kd.V_drew)); exact HO_13.out) hb); have n1_ := Aside0.mk (Kd.N_below (by (with_reducible repeat (first | apply Kd.N_alloc | apply Kd.N_drewN | apply Kd.N_drew)); exact HO_19.out) hb); have n2_ := Aside0.mk (Kd.V_lower (Kd.V_mono (ok' := fun k_ => True) ho0 (fun k_ hk_ => trivial)) (below_size (by repeat (first | (with_reducible first | exact HB.out | apply below_alloc | apply pw_below_drewN | apply below_drew1) | exact HB.out)))); have n3_ := Aside0.mk (below_step (by repeat (first | (with_reducible first | exact HB.out | apply below_alloc | apply pw_below_drewN | apply below_drew1) | exact HB.out)) hb); clear HO_13; clear HO_19; clear HB; have HO_13 := n0_; have HO_19 := n1_; have HO375 := n2_; have HB := n3_; clear n0_ n1_ n2_ n3_; (try clear hb); (try clear hb2); (try clear hk); (try clear hi); (try clear ho0))))
             go_ret
             exact ⟨by first | rfl | (simp [errW_none, errW_some] <;> rfl) | (simp [*, errW_none, errW_some] <;> rfl), by repeat (first | (with_reducible first | exact HB.out | apply below_alloc | apply pw_below_drewN | apply below_drew1) | exact HB.out)⟩
           ·replace c39 := Bool.eq_false_iff.mpr c39
            subst c39
            have H1 : (some false) = some r := by rw [if_neg (show ¬ (false = true) by decide)] at H; exact H
            clear H
            have H := H1
            clear H1
            obtain rfl := Option.some.inj H
            obtain ⟨Ao53, co53, eo53⟩ := Kd.N_slice HO_19.out
            subst eo53
            go_wp2_with (first | (go_at_call 11; (with_reducible refine (seen_Add.calls kj31 (fun k_ => True) _ _ x19_31 (Int.tmod (wrap64 (a1)) 60) (wrap64 (1 + (Int.tmod (wrap64 (a2)) 1000000000))) t373 t376 t377 _ ?side1 A38.out).mono ?_); (case side1 => exact Kd.N_V (HO_19.out)); rintro e w54 ⟨v374, rfl, ho0, hb⟩; have n0_ := Aside0.mk (Kd.V_below (by (with_reducible repeat (first | apply Kd.V_alloc | apply Kd.V_drewN | apply Kd.V_drew)); exact HO_13.out) hb); have n1_ := Aside0.mk (Kd.N_below (by (with_reducible repeat (first | apply Kd.N_alloc | apply Kd.N_drewN | apply Kd.N_drew)); exact HO_19.out) hb); have n2_ := Aside0.mk (Kd.V_lower (Kd.V_mono (ok' := fun k_ => True) ho0 (fun k_ hk_ => trivial)) (below_size (by repeat (first | (with_reducible first | exact HB.out | apply below_alloc | apply pw_below_drewN | apply below_drew1) | exact HB.out)))); have n3_ := Aside0.mk (below_step (by repeat (first | (with_reducible first | exact HB.out | apply below_alloc | apply pw_below_drewN | apply below_drew1) | exact HB.out)) hb); clear HO_13; clear HO_19; clear HB; have HO_13 := n0_; have HO_19 := n1_; have HO375 := n2_; have HB := n3_; clear n0_ n1_ n2_ n3_; (try clear hb); (try clear hb2); (try clear hk); (try clear hi); (try clear ho0)))
            repeat (go_quiet (first | (go_at_call 11; (with_reducible refine (seen_Add.calls kj31 (fun k_ => True) _ _ x19_31 (Int.tmod (wrap64 (a1)) 60) (wrap64 (1 + (Int.tmod (wrap64 (a2)) 1000000000))) t373 t376 t377 _ ?side1 A38.out).mono ?_); (case side1 => exact Kd.N_V (HO_19.out)); rintro e w54 ⟨v374, rfl, ho0, hb⟩; have n0_ := Aside0.mk (Kd.V_below (by (with_reducible repeat (first | apply Kd.V_alloc | apply Kd.V_drewN | apply Kd.V_drew)); exact HO_13.out) hb); have n1_ := Aside0.mk (Kd.N_below (by (with_reducible repeat (first | apply Kd.N_alloc | apply Kd.N_drewN | apply Kd.N_drew)); exact HO_19.out) hb); have n2_ := Aside0.mk (Kd.V_lower (Kd.V_mono (ok' := fun k_ => True) ho0 (fun k_ hk_ => trivial)) (below_size (by repeat (first | (with_reducible first | exact HB.out | apply below_alloc | apply pw_below_drewN | apply below_drew1) | exact HB.out)))); have n3_ := Aside0.mk (below_step (by repeat (first | (with_reducible first | exact HB.out | apply below_alloc | apply pw_below_drewN | apply below_drew1) | exact HB.out)) hb); clear HO_13; clear HO_19; clear HB; have HO_13 := n0_; have HO_19 := n1_; have HO375 := n2_; have HB := n3_; clear n0_ n1_ n2_ n3_; (try clear hb); (try clear hb2); (try clear hk); (try clear hi); (try clear ho0))); try go_wp2_with (first | (go_at_call 11; (with_reducible refine (seen_Add.calls kj31 (fun k_ => True) _ _ x19_31 (Int.tmod (wrap64 (a1)) 60) (wrap64 (1 + (Int.tmod (wrap64 (a2)) 1000000000))) t373 t376 t377 _ ?side1 A38.out).mono ?_); (case side1 => exact Kd.N_V (HO_19.out)); rintro e w54 ⟨v374, rfl, ho0, hb⟩; have n0_ := Aside0.mk (Kd.V_below (by (with_reducible repeat (first | apply Kd.V_alloc | apply Kd.V_drewN | apply Kd.V_drew)); exact HO_13.out) hb); have n1_ := Aside0.mk (Kd.N_below (by (with_reducible repeat (first | apply Kd.N_alloc | apply Kd.N_drewN | apply Kd.N_drew)); exact HO_19.out) hb); have n2_ := Aside0.mk (Kd.V_lower (Kd.V_mono (ok' := fun k_ => True) ho0 (fun k_ hk_ => trivial)) (below_size (by repeat (first | (with_reducible first | exact HB.out | apply below_alloc | apply pw_below_drewN | apply below_drew1) | exact HB.out)))); have n3_ := Aside0.mk (below_step (by repeat (first | (with_reducible first | exact HB.out | apply below_alloc | apply pw_below_drewN | apply below_drew1) | exact HB.out)) hb); clear HO_13; clear HO_19; clear HB; have HO_13 := n0_; have HO_19 := n1_; have HO375 := n2_; have HB := n3_; clear n0_ n1_ n2_ n3_; (try clear hb); (try clear hb2); (try clear hk); (try clear hi); (try clear ho0))))
            go_ret
            exact ⟨by first | rfl | (simp [errW_none, errW_some] <;> rfl) | (simp [*, errW_none, errW_some] <;> rfl), by repeat (first | (with_reducible first | exact HB.out | apply below_alloc | apply pw_below_drewN | apply below_drew1) | exact HB.out)⟩
     ·rw [if_neg c19] at H
      have c19b0 : ((t359.length : Int) == (t362.length : Int)) = false := beq_eq_false_iff_ne.mpr c19
      have c19b1 : ((t359.length : Int) != (t362.length : Int)) = true := bne_iff_ne.mpr c19
      have c19b2 : (t359.length == t362.length) = false := by first | simpa using c19 | (simp at c19 ⊢; omega)
      obtain rfl := Option.some.inj H
      go_wp2_with (first | (go_at_call 11; (with_reducible refine (seen_Add.calls kj5 (fun k_ => k_ < w.heap.size) _ _ l0 (Int.tmod (wrap64 (a1)) 60) (wrap64 (1 + (Int.tmod (wrap64 (a2)) 1000000000))) t354 t357 t358 _ ?side1 A15.out).mono ?_); (case side1 => exact Kd.V_mk HC0.out (Kd.F_below (Kd.C_F k45_heap HR0.out) (by repeat (first | (with_reducible first | exact HB.out | apply below_alloc | apply pw_below_drewN | apply below_drew1) | exact HB.out)))); rintro e w55 ⟨v355, rfl, ho0, hb⟩; have n0_ := Aside0.mk (Kd.V_lower (Kd.V_mono (ok' := fun k_ => True) ho0 (fun k_ hk_ => trivial)) (below_size (by repeat (first | (with_reducible first | exact HB.out | apply below_alloc | apply pw_below_drewN | apply below_drew1) | exact HB.out)))); have n1_ := Aside0.mk (below_step (by repeat (first | (with_reducible first | exact HB.out | apply below_alloc | apply pw_below_drewN | apply below_drew1) | exact HB.out)) hb); clear HB; have HO356 := n0_; have HB := n1_; clear n0_ n1_; (try clear hb); (try clear hb2); (try clear hk); (try clear hi); (try clear ho0)) | (go_at_call 23; (with_reducible refine (slotmeshref26_Of.calls kj5 (fun k_ => k_ < w.heap.size) _ _ l0 (Int.tmod (wrap64 (a3)) 60) t359 _ ?side1 A17.out).mono ?_); (case side1 => exact Kd.V_mk HC0.out (Kd.F_below (Kd.C_F k45_heap HR0.out) (by repeat (first | (with_reducible first | exact HB.out | apply below_alloc | apply pw_below_drewN | apply below_drew1) | exact HB.out)))); rintro e w56 ⟨v360, rfl, ho0, hb⟩; have n0_ := Aside0.mk (Kd.V_below (by (with_reducible repeat (first | apply Kd.V_alloc | apply Kd.V_drewN | apply Kd.V_drew)); exact HO356.out) hb); have n1_ := Aside0.mk (Kd.V_lower (Kd.V_mono (ok' := fun k_ => True) ho0 (fun k_ hk_ => trivial)) (below_size (by repeat (first | (with_reducible first | exact HB.out | apply below_alloc | apply pw_below_drewN | apply below_drew1) | exact HB.out)))); have n2_ := Aside0.mk (below_step (by repeat (first | (with_reducible first | exact HB.out | apply below_alloc | apply pw_below_drewN | apply below_drew1) | exact HB.out)) hb); clear HO356; clear HB; have HO356 := n0_; have HO361 := n1_; have HB := n2_; clear n0_ n1_ n2_; (try clear hb); (try clear hb2); (try clear hk); (try clear hi); (try clear ho0); obtain ⟨Ao57, co57, eo57⟩ := Kd.V_slice HO356.out; subst eo57) | (go_at_call 23; (with_reducible refine (slotmeshref26_Of.calls kj5 (fun k_ => True) _ _ t354 (Int.tmod (wrap64 (a3)) 60) t362 _ ?side1 A18.out).mono ?_); (case side1 => exact HO356.out); rintro e w58 ⟨v363, rfl, ho0, hb⟩; have n0_ := Aside0.mk (Kd.V_below (by (with_reducible repeat (first | apply Kd.V_alloc | apply Kd.V_drewN | apply Kd.V_drew)); exact HO356.out) hb); have n1_ := Aside0.mk (Kd.V_below (by (with_reducible repeat (first | apply Kd.V_alloc | apply Kd.V_drewN | apply Kd.V_drew)); exact HO361.out) hb); have n2_ := Aside0.mk (Kd.V_lower (Kd.V_mono (ok' := fun k_ => True) ho0 (fun k_ hk_ => trivial)) (below_size (by repeat (first | (with_reducible first | exact HB.out | apply below_alloc | apply pw_below_drewN | apply below_drew1) | exact HB.out)))); have n3_ := Aside0.mk (below_step (by repeat (first | (with_reducible first | exact HB.out | apply below_alloc | apply pw_below_drewN | apply below_drew1) | exact HB.out)) hb); clear HO356; clear HO361; clear HB; have HO356 := n0_; have HO361 := n1_; have HO364 := n2_; have HB := n3_; clear n0_ n1_ n2_ n3_; (try clear hb); (try clear hb2); (try clear hk); (try clear hi); (try clear ho0); obtain ⟨Ao59, co59, eo59⟩ := Kd.V_slice HO361.out; subst eo59; obtain ⟨Ao60, co60, eo60⟩ := Kd.V_slice HO364.out; subst eo60))
      repeat (go_quiet (first | (go_at_call 11; (with_reducible refine (seen_Add.calls kj5 (fun k_ => k_ < w.heap.size) _ _ l0 (Int.tmod (wrap64 (a1)) 60) (wrap64 (1 + (Int.tmod (wrap64 (a2)) 1000000000))) t354 t357 t358 _ ?side1 A15.out).mono ?_); (case side1 => exact Kd.V_mk HC0.out (Kd.F_below (Kd.C_F k45_heap HR0.out) (by repeat (first | (with_reducible first | exact HB.out | apply below_alloc | apply pw_below_drewN | apply below_drew1) | exact HB.out)))); rintro e w55 ⟨v355, rfl, ho0, hb⟩; have n0_ := Aside0.mk (Kd.V_lower (Kd.V_mono (ok' := fun k_ => True) ho0 (fun k_ hk_ => trivial)) (below_size (by repeat (first | (with_reducible first | exact HB.out | apply below_alloc | apply pw_below_drewN | apply below_drew1) | exact HB.out)))); have n1_ := Aside0.mk (below_step (by repeat (first | (with_reducible first | exact HB.out | apply below_alloc | apply pw_below_drewN | apply below_drew1) | exact HB.out)) hb); clear HB; have HO356 := n0_; have HB := n1_; clear n0_ n1_; (try clear hb); (try clear hb2); (try clear hk); (try clear hi); (try clear ho0)) | (go_at_call 23; (with_reducible refine (slotmeshref26_Of.calls kj5 (fun k_ => k_ < w.heap.size) _ _ l0 (Int.tmod (wrap64 (a3)) 60) t359 _ ?side1 A17.out).mono ?_); (case side1 => exact Kd.V_mk HC0.out (Kd.F_below (Kd.C_F k45_heap HR0.out) (by repeat (first | (with_reducible first | exact HB.out | apply below_alloc | apply pw_below_drewN | apply below_drew1) | exact HB.out)))); rintro e w56 ⟨v360, rfl, ho0, hb⟩; have n0_ := Aside0.mk (Kd.V_below (by (with_reducible repeat (first | apply Kd.V_alloc | apply Kd.V_drewN | apply Kd.V_drew)); exact HO356.out) hb); have n1_ := Aside0.mk (Kd.V_lower (Kd.V_mono (ok' := fun k_ => True) ho0 (fun k_ hk_ => trivial)) (below_size (by repeat (first | (with_reducible first | exact HB.out | apply below_alloc | apply pw_below_drewN | apply below_drew1) | exact HB.out)))); have n2_ := Aside0.mk (below_step (by repeat (first | (with_reducible first | exact HB.out | apply below_alloc | apply pw_below_drewN | apply below_drew1) | exact HB.out)) hb); clear HO356; clear HB; have HO356 := n0_; have HO361 := n1_; have HB := n2_; clear n0_ n1_ n2_; (try clear hb); (try clear hb2); (try clear hk); (try clear hi); (try clear ho0); obtain ⟨Ao57, co57, eo57⟩ := Kd.V_slice HO356.out; subst eo57) | (go_at_call 23; (with_reducible refine (slotmeshref26_Of.calls kj5 (fun k_ => True) _ _ t354 (Int.tmod (wrap64 (a3)) 60) t362 _ ?side1 A18.out).mono ?_); (case side1 => exact HO356.out); rintro e w58 ⟨v363, rfl, ho0, hb⟩; have n0_ := Aside0.mk (Kd.V_below (by (with_reducible repeat (first | apply Kd.V_alloc | apply Kd.V_drewN | apply Kd.V_drew)); exact HO356.out) hb); have n1_ := Aside0.mk (Kd.V_below (by (with_reducible repeat (first | apply Kd.V_alloc | apply Kd.V_drewN | apply Kd.V_drew)); exact HO361.out) hb); have n2_ := Aside0.mk (Kd.V_lower (Kd.V_mono (ok' := fun k_ => True) ho0 (fun k_ hk_ => trivial)) (below_size (by repeat (first | (with_reducible first | exact HB.out | apply below_alloc | apply pw_below_drewN | apply below_drew1) | exact HB.out)))); have n3_ := Aside0.mk (below_step (by repeat (first | (with_reducible first | exact HB.out | apply below_alloc | apply pw_below_drewN | apply below_drew1) | exact HB.out)) hb); clear HO356; clear HO361; clear HB; have HO356 := n0_; have HO361 := n1_; have HO364 := n2_; have HB := n3_; clear n0_ n1_ n2_ n3_; (try clear hb); (try clear hb2); (try clear hk); (try clear hi); (try clear ho0); obtain ⟨Ao59, co59, eo59⟩ := Kd.V_slice HO361.out; subst eo59; obtain ⟨Ao60, co60, eo60⟩ := Kd.V_slice HO364.out; subst eo60)); try go_wp2_with (first | (go_at_call 11; (with_reducible refine (seen_Add.calls kj5 (fun k_ => k_ < w.heap.size) _ _ l0 (Int.tmod (wrap64 (a1)) 60) (wrap64 (1 + (Int.tmod (wrap64 (a2)) 1000000000))) t354 t357 t358 _ ?side1 A15.out).mono ?_); (case side1 => exact Kd.V_mk HC0.out (Kd.F_below (Kd.C_F k45_heap HR0.out) (by repeat (first | (with_reducible first | exact HB.out | apply below_alloc | apply pw_below_drewN | apply below_drew1) | exact HB.out)))); rintro e w55 ⟨v355, rfl, ho0, hb⟩; have n0_ := Aside0.mk (Kd.V_lower (Kd.V_mono (ok' := fun k_ => True) ho0 (fun k_ hk_ => trivial)) (below_size (by repeat (first | (with_reducible first | exact HB.out | apply below_alloc | apply pw_below_drewN | apply below_drew1) | exact HB.out)))); have n1_ := Aside0.mk (below_step (by repeat (first | (with_reducible first | exact HB.out | apply below_alloc | apply pw_below_drewN | apply below_drew1) | exact HB.out)) hb); clear HB; have HO356 := n0_; have HB := n1_; clear n0_ n1_; (try clear hb); (try clear hb2); (try clear hk); (try clear hi); (try clear ho0)) | (go_at_call 23; (with_reducible refine (slotmeshref26_Of.calls kj5 (fun k_ => k_ < w.heap.size) _ _ l0 (Int.tmod (wrap64 (a3)) 60) t359 _ ?side1 A17.out).mono ?_); (case side1 => exact Kd.V_mk HC0.out (Kd.F_below (Kd.C_F k45_heap HR0.out) (by repeat (first | (with_reducible first | exact HB.out | apply below_alloc | apply pw_below_drewN | apply below_drew1) | exact HB.out)))); rintro e w56 ⟨v360, rfl, ho0, hb⟩; have n0_ := Aside0.mk (Kd.V_below (by (with_reducible repeat (first | apply Kd.V_alloc | apply Kd.V_drewN | apply Kd.V_drew)); exact HO356.out) hb); have n1_ := Aside0.mk (Kd.V_lower (Kd.V_mono (ok' := fun k_ => True) ho0 (fun k_ hk_ => trivial)) (below_size (by repeat (first | (with_reducible first | exact HB.out | apply below_alloc | apply pw_below_drewN | apply below_drew1) | exact HB.out)))); have n2_ := Aside0.mk (below_step (by repeat (first | (with_reducible first | exact HB.out | apply below_alloc | apply pw_below_drewN | apply below_drew1) | exact HB.out)) hb); clear HO356; clear HB; have HO356 := n0_; have HO361 := n1_; have HB := n2_; clear n0_ n1_ n2_; (try clear hb); (try clear hb2); (try clear hk); (try clear hi); (try clear ho0); obtain ⟨Ao57, co57, eo57⟩ := Kd.V_slice HO356.out; subst eo57) | (go_at_call 23; (with_reducible refine (slotmeshref26_Of.calls kj5 (fun k_ => True) _ _ t354 (Int.tmod (wrap64 (a3)) 60) t362 _ ?side1 A18.out).mono ?_); (case side1 => exact HO356.out); rintro e w58 ⟨v363, rfl, ho0, hb⟩; have n0_ := Aside0.mk (Kd.V_below (by (with_reducible repeat (first | apply Kd.V_alloc | apply Kd.V_drewN | apply Kd.V_drew)); exact HO356.out) hb); have n1_ := Aside0.mk (Kd.V_below (by (with_reducible repeat (first | apply Kd.V_alloc | apply Kd.V_drewN | apply Kd.V_drew)); exact HO361.out) hb); have n2_ := Aside0.mk (Kd.V_lower (Kd.V_mono (ok' := fun k_ => True) ho0 (fun k_ hk_ => trivial)) (below_size (by repeat (first | (with_reducible first | exact HB.out | apply below_alloc | apply pw_below_drewN | apply below_drew1) | exact HB.out)))); have n3_ := Aside0.mk (below_step (by repeat (first | (with_reducible first | exact HB.out | apply below_alloc | apply pw_below_drewN | apply below_drew1) | exact HB.out)) hb); clear HO356; clear HO361; clear HB; have HO356 := n0_; have HO361 := n1_; have HO364 := n2_; have HB := n3_; clear n0_ n1_ n2_ n3_; (try clear hb); (try clear hb2); (try clear hk); (try clear hi); (try clear ho0); obtain ⟨Ao59, co59, eo59⟩ := Kd.V_slice HO361.out; subst eo59; obtain ⟨Ao60, co60, eo60⟩ := Kd.V_slice HO364.out; subst eo60)))
      go_ret
      exact ⟨by first | rfl | (simp [errW_none, errW_some] <;> rfl) | (simp [*, errW_none, errW_some] <;> rfl), by repeat (first | (with_reducible first | exact HB.out | apply below_alloc | apply pw_below_drewN | apply below_drew1) | exact HB.out)⟩
    ·rw [if_neg c16] at H
     have c16b0 : (t358 == 0) = false := beq_eq_false_iff_ne.mpr c16
     have c16b1 : (t358 != 0) = true := bne_iff_ne.mpr c16
     by_cases c61 : t351 = true
     ·subst c61
      have H1 : (some (t358 == 10)) = some r := by rw [if_pos rfl] at H; exact H
      clear H
      have H := H1
      clear H1
      obtain rfl := Option.some.inj H
      go_wp2_with (first | (go_at_call 11; (with_reducible refine (seen_Add.calls kj5 (fun k_ => k_ < w.heap.size) _ _ l0 (Int.tmod (wrap64 (a1)) 60) (wrap64 (1 + (Int.tmod (wrap64 (a2)) 1000000000))) t354 t357 t358 _ ?side1 A15.out).mono ?_); (case side1 => exact Kd.V_mk HC0.out (Kd.F_below (Kd.C_F k45_heap HR0.out) (by repeat (first | (with_reducible first | exact HB.out | apply below_alloc | apply pw_below_drewN | apply below_drew1) | exact HB.out)))); rintro e w62 ⟨v355, rfl, ho0, hb⟩; have n0_ := Aside0.mk (Kd.V_lower (Kd.V_mono (ok' := fun k_ => True) ho0 (fun k_ hk_ => trivial)) (below_size (by repeat (first | (with_reducible first | exact HB.out | apply below_alloc | apply pw_below_drewN | apply below_drew1) | exact HB.out)))); have n1_ := Aside0.mk (below_step (by repeat (first | (with_reducible first | exact HB.out | apply below_alloc | apply pw_below_drewN | apply below_drew1) | exact HB.out)) hb); clear HB; have HO356 := n0_; have HB := n1_; clear n0_ n1_; (try clear hb); (try clear hb2); (try clear hk); (try clear hi); (try clear ho0)))
      repeat (go_quiet (first | (go_at_call 11; (with_reducible refine (seen_Add.calls kj5 (fun k_ => k_ < w.heap.size) _ _ l0 (Int.tmod (wrap64 (a1)) 60) (wrap64 (1 + (Int.tmod (wrap64 (a2)) 1000000000))) t354 t357 t358 _ ?side1 A15.out).mono ?_); (case side1 => exact Kd.V_mk HC0.out (Kd.F_below (Kd.C_F k45_heap HR0.out) (by repeat (first | (with_reducible first | exact HB.out | apply below_alloc | apply pw_below_drewN | apply below_drew1) | exact HB.out)))); rintro e w62 ⟨v355, rfl, ho0, hb⟩; have n0_ := Aside0.mk (Kd.V_lower (Kd.V_mono (ok' := fun k_ => True) ho0 (fun k_ hk_ => trivial)) (below_size (by repeat (first | (with_reducible first | exact HB.out | apply below_alloc | apply pw_below_drewN | apply below_drew1) | exact HB.out)))); have n1_ := Aside0.mk (below_step (by repeat (first | (with_reducible first | exact HB.out | apply below_alloc | apply pw_below_drewN | apply below_drew1) | exact HB.out)) hb); clear HB; have HO356 := n0_; have HB := n1_; clear n0_ n1_; (try clear hb); (try clear hb2); (try clear hk); (try clear hi); (try clear ho0))); try go_wp2_with (first | (go_at_call 11; (with_reducible refine (seen_Add.calls kj5 (fun k_ => k_ < w.heap.size) _ _ l0 (Int.tmod (wrap64 (a1)) 60) (wrap64 (1 + (Int.tmod (wrap64 (a2)) 1000000000))) t354 t357 t358 _ ?side1 A15.out).mono ?_); (case side1 => exact Kd.V_mk HC0.out (Kd.F_below (Kd.C_F k45_heap HR0.out) (by repeat (first | (with_reducible first | exact HB.out | apply below_alloc | apply pw_below_drewN | apply below_drew1) | exact HB.out)))); rintro e w62 ⟨v355, rfl, ho0, hb⟩; have n0_ := Aside0.mk (Kd.V_lower (Kd.V_mono (ok' := fun k_ => True) ho0 (fun k_ hk_ => trivial)) (below_size (by repeat (first | (with_reducible first | exact HB.out | apply below_alloc | apply pw_below_drewN | apply below_drew1) | exact HB.out)))); have n1_ := Aside0.mk (below_step (by repeat (first | (with_reducible first | exact HB.out | apply below_alloc | apply pw_below_drewN | apply below_drew1) | exact HB.out)) hb); clear HB; have HO356 := n0_; have HB := n1_; clear n0_ n1_; (try clear hb); (try clear hb2); (try clear hk); (try clear hi); (try clear ho0))))
      go_ret
      exact ⟨by first | rfl | (simp [errW_none, errW_some] <;> rfl) | (simp [*, errW_none, errW_some] <;> rfl), by repeat (first | (with_reducible first | exact HB.out | apply below_alloc | apply pw_below_drewN | apply below_drew1) | exact HB.out)⟩
     ·replace c61 := Bool.eq_false_iff.mpr c61
      subst c61
      have H1 : (some false) = some r := by rw [if_neg (show ¬ (false = true) by decide)] at H; exact H
      clear H
      have H := H1
      clear H1
      obtain rfl := Option.some.inj H
      go_wp2_with (first | (go_at_call 11; (with_reducible refine (seen_Add.calls kj5 (fun k_ => k_ < w.heap.size) _ _ l0 (Int.tmod (wrap64 (a1)) 60) (wrap64 (1 + (Int.tmod (wrap64 (a2)) 1000000000))) t354 t357 t358 _ ?side1 A15.out).mono ?_); (case side1 => exact Kd.V_mk HC0.out (Kd.F_below (Kd.C_F k45_heap HR0.out) (by repeat (first | (with_reducible first | exact HB.out | apply below_alloc | apply pw_below_drewN | apply below_drew1) | exact HB.out)))); rintro e w63 ⟨v355, rfl, ho0, hb⟩; have n0_ := Aside0.mk (Kd.V_lower (Kd.V_mono (ok' := fun k_ => True) ho0 (fun k_ hk_ => trivial)) (below_size (by repeat (first | (with_reducible first | exact HB.out | apply below_alloc | apply pw_below_drewN | apply below_drew1) | exact HB.out)))); have n1_ := Aside0.mk (below_step (by repeat (first | (with_reducible first | exact HB.out | apply below_alloc | apply pw_below_drewN | apply below_drew1) | exact HB.out)) hb); clear HB; have HO356 := n0_; have HB := n1_; clear n0_ n1_; (try clear hb); (try clear hb2); (try clear hk); (try clear hi); (try clear ho0)))
      repeat (go_quiet (first | (go_at_call 11; (with_reducible refine (seen_Add.calls kj5 (fun k_ => k_ < w.heap.size) _ _ l0 (Int.tmod (wrap64 (a1)) 60) (wrap64 (1 + (Int.tmod (wrap64 (a2)) 1000000000))) t354 t357 t358 _ ?side1 A15.out).mono ?_); (case side1 => exact Kd.V_mk HC0.out (Kd.F_below (Kd.C_F k45_heap HR0.out) (by repeat (first | (with_reducible first | exact HB.out | apply below_alloc | apply pw_below_drewN | apply below_drew1) | exact HB.out)))); rintro e w63 ⟨v355, rfl, ho0, hb⟩; have n0_ := Aside0.mk (Kd.V_lower (Kd.V_mono (ok' := fun k_ => True) ho0 (fun k_ hk_ => trivial)) (below_size (by repeat (first | (with_reducible first | exact HB.out | apply below_alloc | apply pw_below_drewN | apply below_drew1) | exact HB.out)))); have n1_ := Aside0.mk (below_step (by repeat (first | (with_reducible first | exact HB.out | apply below_alloc | apply pw_below_drewN | apply below_drew1) | exact HB.out)) hb); clear HB; have HO356 := n0_; have HB := n1_; clear n0_ n1_; (try clear hb); (try clear hb2); (try clear hk); (try clear hi); (try clear ho0))); try go_wp2_with (first | (go_at_call 11; (with_reducible refine (seen_Add.calls kj5 (fun k_ => k_ < w.heap.size) _ _ l0 (Int.tmod (wrap64 (a1)) 60) (wrap64 (1 + (Int.tmod (wrap64 (a2)) 1000000000))) t354 t357 t358 _ ?side1 A15.out).mono ?_); (case side1 => exact Kd.V_mk HC0.out (Kd.F_below (Kd.C_F k45_heap HR0.out) (by repeat (first | (with_reducible first | exact HB.out | apply below_alloc | apply pw_below_drewN | apply below_drew1) | exact HB.out)))); rintro e w63 ⟨v355, rfl, ho0, hb⟩; have n0_ := Aside0.mk (Kd.V_lower (Kd.V_mono (ok' := fun k_ => True) ho0 (fun k_ hk_ => trivial)) (below_size (by repeat (first | (with_reducible first | exact HB.out | apply below_alloc | apply pw_below_drewN | apply below_drew1) | exact HB.out)))); have n1_ := Aside0.mk (below_step (by repeat (first | (with_reducible first | exact HB.out | apply below_alloc | apply pw_below_drewN | apply below_drew1) | exact HB.out)) hb); clear HB; have HO356 := n0_; have HB := n1_; clear n0_ n1_; (try clear hb); (try clear hb2); (try clear hk); (try clear hi); (try clear ho0))))
      go_ret
      exact ⟨by first | rfl | (simp [errW_none, errW_some] <;> rfl) | (simp [*, errW_none, errW_some] <;> rfl), by repeat (first | (with_reducible first | exact HB.out | apply below_alloc | apply pw_below_drewN | apply below_drew1) | exact HB.out)⟩

end Go.Proofs.Ytjibgfihfbdcaaa.PSeen
