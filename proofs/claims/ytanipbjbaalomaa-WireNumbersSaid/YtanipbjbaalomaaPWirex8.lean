-- A text of this claim, written by this session's program.
import Derived.Test.YtanipbjbaalomaaPWirex0
import Derived.Test.YtanipbjbaalomaaPWirex1
import Derived.Test.YtanipbjbaalomaaPWirex3
import Derived.Test.YtanipbjbaalomaaPWirex4
namespace Go.Proofs.Ytanipbjbaalomaa.PWire
open Go.RowKit Go.Proofs.YtanipbjbaalomaaW.PrintWords Go.Proofs.YtanipbjbaalomaaW.PrintLast Go.Proofs.YtanipbjbaalomaaW.PrintMore
attribute [local go_sem] max2_int min2_int max_two min_two max_three min_three max_four min_four   -- for this text's walks alone
set_option linter.unusedVariables false
set_option linter.unusedSimpArgs false

/-! ### slotmeshlaw04_WireNumbers: function 4 -/
mutual
def slotmeshlaw04_WireNumbers.j0 : Nat → List Int → Int → List Int → Int → Bool → List Int → Int → Bool → Option (Bool)
  | 0, _, _, _, _, _, _, _, _ => none
  | k + 1, x0, x1, x2, x3, x9, x11, x12, x39 => if x39 = true then (if x9 = true then (if x12 = 3 then (some ((x11.length : Int) == 0)) else (none)) else (none)) else (if x12 = 0 then (if (x11.length : Int) ≤ (x0.length : Int) then (slotmeshlaw04_WireNumbers.j1 k x0 x1 x2 x3 x9 x11 true) else (if (x11.length : Int) > (wrap64 ((x0.length : Int) + 7)) then (slotmeshlaw04_WireNumbers.j1 k x0 x1 x2 x3 x9 x11 true) else (if x1 ≥ (-64) then (slotmeshlaw04_WireNumbers.j1 k x0 x1 x2 x3 x9 x11 (((x11.length : Int) == (wrap64 ((x0.length : Int) + 1))) != (decide (x1 ≤ 63)))) else (slotmeshlaw04_WireNumbers.j1 k x0 x1 x2 x3 x9 x11 (((x11.length : Int) == (wrap64 ((x0.length : Int) + 1))) != false))))) else (slotmeshlaw04_WireNumbers.j1 k x0 x1 x2 x3 x9 x11 true))
def slotmeshlaw04_WireNumbers.j1 : Nat → List Int → Int → List Int → Int → Bool → List Int → Bool → Option (Bool)
  | 0, _, _, _, _, _, _, _ => none
  | k + 1, x0, x1, x2, x3, x9, x11, x81 => if x81 = true then (some false) else (if 0 ≤ 281474976710656 then ((some (List.replicate 0 0 : List Int)).bind fun y410 => (if y410.length + x11.length < 140737488355328 then ((some (y410 ++ x11 : List Int)).bind fun y413 => (if y413.length + x2.length < 140737488355328 then ((wire_Number.f (y413 ++ x2) (x0.length : Int)).bind fun bt419 => (if x9 = true then (if bt419.2.2 = 0 then (if bt419.1 = x1 then (if bt419.2.1 = (x11.length : Int) then (if 0 ≤ (x0.length : Int) then (if (x0.length : Int) ≤ (x11.length : Int) then ((slotmeshref04_Same.f k (x11.take ((x0.length : Int) : Int).toNat) x0).bind fun t426 => ((wire_Number.f x0 x3).bind fun bt427 => (if bt427.2.2 = 0 then (if x3 < 0 then (slotmeshlaw04_WireNumbers.j2 k x0 x3 t426 bt427.1 bt427.2.1 true) else (if bt427.2.1 ≤ x3 then (slotmeshlaw04_WireNumbers.j2 k x0 x3 t426 bt427.1 bt427.2.1 true) else (slotmeshlaw04_WireNumbers.j2 k x0 x3 t426 bt427.1 bt427.2.1 (decide (bt427.2.1 > (x0.length : Int)))))) else (some t426)))) else (none)) else (none)) else (none)) else (none)) else (none)) else (none))) else (none))) else (none))) else (none))
def slotmeshlaw04_WireNumbers.j2 : Nat → List Int → Int → Bool → Int → Int → Bool → Option (Bool)
  | 0, _, _, _, _, _, _ => none
  | k + 1, x0, x3, x9, x16, x17, x140 => if x140 = true then (some false) else ((wire_PutNumber.f k ([] : List Int) x16).bind fun bt430 => (if x9 = true then (if bt430.2 = 0 then (if 0 ≤ x3 then (if x3 ≤ x17 then (if x17 ≤ (x0.length : Int) then ((slotmeshref04_Same.f k bt430.1 ((x0.take (x17 : Int).toNat).drop (x3 : Int).toNat)).bind fun t435 => (some t435)) else (none)) else (none)) else (none)) else (none)) else (none)))
end
def slotmeshlaw04_WireNumbers.f (k : Nat) (l0 : List Int) (a1 : Int) (l2 : List Int) (a3 : Int) : Option (Bool) := (slotmeshlaw04_head.f k).bind fun t404 => ((slotmeshlaw04_few.f l0 l2).bind fun t405 => (if t405 = true then ((wire_PutNumber.f k l0 a1).bind fun bt406 => (if a1 < (-10000000000000) then (slotmeshlaw04_WireNumbers.j0 k l0 a1 l2 a3 t404 bt406.1 bt406.2 true) else (slotmeshlaw04_WireNumbers.j0 k l0 a1 l2 a3 t404 bt406.1 bt406.2 (decide (a1 > 10000000000000))))) else (some t404)))
theorem slotmeshlaw04_WireNumbers.mono_l : ∀ k, (∀ y0 y1 y2 y3 y4 y5 y6 y7, LeO (slotmeshlaw04_WireNumbers.j0 k y0 y1 y2 y3 y4 y5 y6 y7) (slotmeshlaw04_WireNumbers.j0 (k + 1) y0 y1 y2 y3 y4 y5 y6 y7)) ∧ (∀ y0 y1 y2 y3 y4 y5 y6, LeO (slotmeshlaw04_WireNumbers.j1 k y0 y1 y2 y3 y4 y5 y6) (slotmeshlaw04_WireNumbers.j1 (k + 1) y0 y1 y2 y3 y4 y5 y6)) ∧ (∀ y0 y1 y2 y3 y4 y5, LeO (slotmeshlaw04_WireNumbers.j2 k y0 y1 y2 y3 y4 y5) (slotmeshlaw04_WireNumbers.j2 (k + 1) y0 y1 y2 y3 y4 y5))
  | 0 => ⟨fun _ _ _ _ _ _ _ _ r h => by simp [slotmeshlaw04_WireNumbers.j0] at h, fun _ _ _ _ _ _ _ r h => by simp [slotmeshlaw04_WireNumbers.j1] at h, fun _ _ _ _ _ _ r h => by simp [slotmeshlaw04_WireNumbers.j2] at h⟩
  | k + 1 => by
    obtain ⟨ih0, ih1, ih2⟩ := slotmeshlaw04_WireNumbers.mono_l k
    refine ⟨?_, ?_, ?_⟩
    · intro y0 y1 y2 y3 y4 y5 y6 y7
      unfold slotmeshlaw04_WireNumbers.j0
      repeat' first
      | (with_reducible exact ih0 _ _ _ _ _ _ _ _)
      | (with_reducible exact ih1 _ _ _ _ _ _ _)
      | (with_reducible exact ih2 _ _ _ _ _ _)
      | (with_reducible exact slotmeshlaw04_head.mono _)
      | (with_reducible exact slotmeshref04_Same.mono _ _ _)
      | (with_reducible exact wire_PutNumber.mono _ _ _)
      | (with_reducible exact LeO.refl _)
      | (with_reducible exact LeO.none _)
      | (with_reducible refine LeO.ite ?_ ?_)
      | (with_reducible refine LeO.bind ?_ (fun _ => ?_))
      | exact ih0 _ _ _ _ _ _ _ _
      | exact ih1 _ _ _ _ _ _ _
      | exact ih2 _ _ _ _ _ _
      | exact slotmeshlaw04_head.mono _
      | exact slotmeshref04_Same.mono _ _ _
      | exact wire_PutNumber.mono _ _ _
      | exact LeO.none _
      | refine LeO.ite ?_ ?_
      | refine LeO.bind ?_ (fun _ => ?_)
    · intro y0 y1 y2 y3 y4 y5 y6
      unfold slotmeshlaw04_WireNumbers.j1
      repeat' first
      | (with_reducible exact ih0 _ _ _ _ _ _ _ _)
      | (with_reducible exact ih1 _ _ _ _ _ _ _)
      | (with_reducible exact ih2 _ _ _ _ _ _)
      | (with_reducible exact slotmeshlaw04_head.mono _)
      | (with_reducible exact slotmeshref04_Same.mono _ _ _)
      | (with_reducible exact wire_PutNumber.mono _ _ _)
      | (with_reducible exact LeO.refl _)
      | (with_reducible exact LeO.none _)
      | (with_reducible refine LeO.ite ?_ ?_)
      | (with_reducible refine LeO.bind ?_ (fun _ => ?_))
      | exact ih0 _ _ _ _ _ _ _ _
      | exact ih1 _ _ _ _ _ _ _
      | exact ih2 _ _ _ _ _ _
      | exact slotmeshlaw04_head.mono _
      | exact slotmeshref04_Same.mono _ _ _
      | exact wire_PutNumber.mono _ _ _
      | exact LeO.none _
      | refine LeO.ite ?_ ?_
      | refine LeO.bind ?_ (fun _ => ?_)
    · intro y0 y1 y2 y3 y4 y5
      unfold slotmeshlaw04_WireNumbers.j2
      repeat' first
      | (with_reducible exact ih0 _ _ _ _ _ _ _ _)
      | (with_reducible exact ih1 _ _ _ _ _ _ _)
      | (with_reducible exact ih2 _ _ _ _ _ _)
      | (with_reducible exact slotmeshlaw04_head.mono _)
      | (with_reducible exact slotmeshref04_Same.mono _ _ _)
      | (with_reducible exact wire_PutNumber.mono _ _ _)
      | (with_reducible exact LeO.refl _)
      | (with_reducible exact LeO.none _)
      | (with_reducible refine LeO.ite ?_ ?_)
      | (with_reducible refine LeO.bind ?_ (fun _ => ?_))
      | exact ih0 _ _ _ _ _ _ _ _
      | exact ih1 _ _ _ _ _ _ _
      | exact ih2 _ _ _ _ _ _
      | exact slotmeshlaw04_head.mono _
      | exact slotmeshref04_Same.mono _ _ _
      | exact wire_PutNumber.mono _ _ _
      | exact LeO.none _
      | refine LeO.ite ?_ ?_
      | refine LeO.bind ?_ (fun _ => ?_)
theorem slotmeshlaw04_WireNumbers.mono : ∀ a0 a1 a2 a3 k, LeO (slotmeshlaw04_WireNumbers.f k a0 a1 a2 a3) (slotmeshlaw04_WireNumbers.f (k + 1) a0 a1 a2 a3) := by
  intro a0 a1 a2 a3 k
  obtain ⟨ih0, ih1, ih2⟩ := slotmeshlaw04_WireNumbers.mono_l k
  unfold slotmeshlaw04_WireNumbers.f
  repeat' first
      | (with_reducible exact ih0 _ _ _ _ _ _ _ _)
      | (with_reducible exact ih1 _ _ _ _ _ _ _)
      | (with_reducible exact ih2 _ _ _ _ _ _)
      | (with_reducible exact slotmeshlaw04_head.mono _)
      | (with_reducible exact slotmeshref04_Same.mono _ _ _)
      | (with_reducible exact wire_PutNumber.mono _ _ _)
      | (with_reducible exact LeO.refl _)
      | (with_reducible exact LeO.none _)
      | (with_reducible refine LeO.ite ?_ ?_)
      | (with_reducible refine LeO.bind ?_ (fun _ => ?_))
      | exact ih0 _ _ _ _ _ _ _ _
      | exact ih1 _ _ _ _ _ _ _
      | exact ih2 _ _ _ _ _ _
      | exact slotmeshlaw04_head.mono _
      | exact slotmeshref04_Same.mono _ _ _
      | exact wire_PutNumber.mono _ _ _
      | exact LeO.none _
      | refine LeO.ite ?_ ?_
      | refine LeO.bind ?_ (fun _ => ?_)
set_option maxHeartbeats 8000000 in
set_option maxRecDepth 100000 in
theorem slotmeshlaw04_WireNumbers.calls (k : Nat) (A0 : Option Addr) (c0 : Nat) (l0 : List Int) (a1 : Int) (A2 : Option Addr) (c2 : Nat) (l2 : List Int) (a3 : Int) (r : Bool) (w : World) (hr0 : Kd.C (Kd.int .u8) w A0 l0.length l0) (hc0 : l0.length ≤ c0) (hr2 : Kd.C (Kd.int .u8) w A2 l2.length l2) (hc2 : l2.length ≤ c2) (h : slotmeshlaw04_WireNumbers.f k l0 a1 l2 a3 = some r) :
    Calls Try.prog 4 #[.slice A0 l0.length c0, .int .i64 a1, .slice A2 l2.length c2, .int .i64 a3] w fun e w' => e = .returned (.bool r) ∧ Below w.heap.size w w' := by
  have HR0 := Aside0.mk hr0
  have HC0 := Aside0.mk hc0
  clear hr0 hc0
  have HR2 := Aside0.mk hr2
  have HC2 := Aside0.mk hc2
  clear hr2 hc2
  have HB := Aside0.mk (Below.refl w.heap.size w)
  have H : ((slotmeshlaw04_head.f k).bind fun t404 => ((slotmeshlaw04_few.f l0 l2).bind fun t405 => (if t405 = true then ((wire_PutNumber.f k l0 a1).bind fun bt406 => (if a1 < (-10000000000000) then (slotmeshlaw04_WireNumbers.j0 k l0 a1 l2 a3 t404 bt406.1 bt406.2 true) else (slotmeshlaw04_WireNumbers.j0 k l0 a1 l2 a3 t404 bt406.1 bt406.2 (decide (a1 > 10000000000000))))) else (some t404)))) = some r := h
  clear h
  replace H := Option.bind_eq_some_iff.mp H
  obtain ⟨t404, A50, H⟩ := H
  replace H : ((slotmeshlaw04_few.f l0 l2).bind fun t405 => (if t405 = true then ((wire_PutNumber.f k l0 a1).bind fun bt406 => (if a1 < (-10000000000000) then (slotmeshlaw04_WireNumbers.j0 k l0 a1 l2 a3 t404 bt406.1 bt406.2 true) else (slotmeshlaw04_WireNumbers.j0 k l0 a1 l2 a3 t404 bt406.1 bt406.2 (decide (a1 > 10000000000000))))) else (some t404))) = some r := H
  have A5 := Aside0.mk A50
  clear A50
  replace H := Option.bind_eq_some_iff.mp H
  obtain ⟨t405, A60, H⟩ := H
  replace H : (if t405 = true then ((wire_PutNumber.f k l0 a1).bind fun bt406 => (if a1 < (-10000000000000) then (slotmeshlaw04_WireNumbers.j0 k l0 a1 l2 a3 t404 bt406.1 bt406.2 true) else (slotmeshlaw04_WireNumbers.j0 k l0 a1 l2 a3 t404 bt406.1 bt406.2 (decide (a1 > 10000000000000))))) else (some t404)) = some r := H
  have A6 := Aside0.mk A60
  clear A60
  by_cases c7 : t405 = true
  · subst c7
    have H1 : ((wire_PutNumber.f k l0 a1).bind fun bt406 => (if a1 < (-10000000000000) then (slotmeshlaw04_WireNumbers.j0 k l0 a1 l2 a3 t404 bt406.1 bt406.2 true) else (slotmeshlaw04_WireNumbers.j0 k l0 a1 l2 a3 t404 bt406.1 bt406.2 (decide (a1 > 10000000000000))))) = some r := by rw [if_pos rfl] at H; exact H
    clear H
    have H := H1
    clear H1
    replace H := Option.bind_eq_some_iff.mp H
    obtain ⟨⟨t406, t407⟩, A80, H⟩ := H
    replace H : (if a1 < (-10000000000000) then (slotmeshlaw04_WireNumbers.j0 k l0 a1 l2 a3 t404 t406 t407 true) else (slotmeshlaw04_WireNumbers.j0 k l0 a1 l2 a3 t404 t406 t407 (decide (a1 > 10000000000000)))) = some r := H
    have A8 := Aside0.mk A80
    clear A80
    have HC9 := Aside0.mk H
    clear H
    go_enter Try.func4, Try.ntmps4
    go_upto_region 6 with (first | ((with_reducible refine gate_callee (f := 17) rfl ?_); refine goesL_ (some 21) rfl rfl Try.func17 (by kernel_rfl) rfl #[] rfl (by (try simp only [List.map_toArray, List.map_cons, List.map_nil]); first | done | rfl | (simp only [List.length_drop, List.length_take]; rfl)) ?_; (with_reducible refine (slotmeshlaw04_head.calls k  t404 _ A5.out).mono ?_); rintro e w10 ⟨rfl, hb⟩; refine ⟨_, rfl, ?_⟩; have n0_ := Aside0.mk (below_step (by repeat (first | (with_reducible first | exact HB.out | apply below_alloc | apply pw_below_drewN | apply below_drew1) | exact HB.out)) hb); clear HB; have HB := n0_; clear n0_; (try clear hb); (try clear hb2); (try clear hk); (try clear hi)) | ((with_reducible refine gate_callee (f := 18) rfl ?_); refine goesL_ (some 24) rfl rfl Try.func18 (by kernel_rfl) rfl #[.slice A0 l0.length c0, .slice A2 l2.length c2] rfl (by (try simp only [List.map_toArray, List.map_cons, List.map_nil]); first | done | rfl | (simp only [List.length_drop, List.length_take]; rfl)) ?_; (with_reducible refine (slotmeshlaw04_few.calls _ _ l0 _ _ l2 true _ ?side1 ?side2 ?side3 ?side4 A6.out).mono ?_); (case side1 => repeat (first | exact (Kd.C_below HR0.out HB.out) | (with_reducible refine Kd.C_alloc ?_ _) | (with_reducible refine Kd.C_drewN ?_ _) | (with_reducible refine Kd.C_drew ?_))); (case side2 => exact HC0.out); (case side3 => repeat (first | exact (Kd.C_below HR2.out HB.out) | (with_reducible refine Kd.C_alloc ?_ _) | (with_reducible refine Kd.C_drewN ?_ _) | (with_reducible refine Kd.C_drew ?_))); (case side4 => exact HC2.out); rintro e w' ⟨rfl, ⟨nd, rfl⟩⟩; refine ⟨_, rfl, ?_⟩) | ((with_reducible refine gate_callee (f := 19) rfl ?_); refine goesL_ (some 31) rfl rfl Try.func19 (by kernel_rfl) rfl #[.slice A0 l0.length c0, .int .i64 a1] rfl (by (try simp only [List.map_toArray, List.map_cons, List.map_nil]); first | done | rfl | (simp only [List.length_drop, List.length_take]; rfl)) ?_; (with_reducible refine (wire_PutNumber.calls k _ _ l0 a1 t406 t407 _ ?side1 ?side2 A8.out).mono ?_); (case side1 => repeat (first | exact (Kd.C_below HR0.out (by repeat (first | (with_reducible first | exact HB.out | apply below_alloc | apply pw_below_drewN | apply below_drew1) | exact HB.out))) | (with_reducible refine Kd.C_alloc ?_ _) | (with_reducible refine Kd.C_drewN ?_ _) | (with_reducible refine Kd.C_drew ?_))); (case side2 => exact HC0.out); rintro e w11 ⟨v408, rfl, ho0, hb⟩; refine ⟨_, rfl, ?_⟩; have n0_ := Aside0.mk (Kd.R_lower ho0 (below_size (by repeat (first | (with_reducible first | exact HB.out | apply below_alloc | apply pw_below_drewN | apply below_drew1) | exact HB.out)))); have n1_ := Aside0.mk (below_step (by repeat (first | (with_reducible first | exact HB.out | apply below_alloc | apply pw_below_drewN | apply below_drew1) | exact HB.out)) hb); clear HB; have HO409 := n0_; have HB := n1_; clear n0_ n1_; (try clear hb); (try clear hb2); (try clear hk); (try clear hi); (try clear ho0)))
    (try simp only [Act.put, List.setIfInBounds_toArray, List.set_cons_zero, List.set_cons_succ])
    go_cut [39] (fun v39 wc => ∃ (kq : Nat) (x39_8 : Bool), v39 = .bool x39_8 ∧ Aside0 (slotmeshlaw04_WireNumbers.j0 kq l0 a1 l2 a3 t404 t406 t407 x39_8 = some r) ∧ Aside0 (kq ≤ k) ∧ Aside0 (Kd.R (Kd.int .u8) 5 wc w.heap.size (fun _ => True) v408 t406) ∧ Aside0 (Below w.heap.size w wc))
    case first =>
      have H := HC9.out
      clear HC9
      by_cases c12 : a1 < (-10000000000000)
      · rw [if_pos c12] at H
        have c12b0 : decide (a1 < (-10000000000000)) = true := decide_eq_true c12
        clear c12
        (first | rw [c12b0] | (simp only [i64_w, i32_w]; rw [c12b0]) | skip)
        have H' := Aside0.mk H
        clear H
        go_wp2
        go_meet
        case rel => exact ⟨_, (true), (by first | rfl | (simp; done) | (simp [*]; done)), H', ⟨by first | omega | exact Nat.le_refl _⟩, ⟨by (with_reducible repeat (first | apply Kd.R_alloc | apply Kd.R_drewN | apply Kd.R_drew)); exact HO409.out⟩, ⟨by repeat (first | (with_reducible first | exact HB.out | apply below_alloc | apply pw_below_drewN | apply below_drew1) | exact HB.out)⟩⟩
      · rw [if_neg c12] at H
        have c12b0 : decide (a1 < (-10000000000000)) = false := decide_eq_false c12
        clear c12
        (first | rw [c12b0] | (simp only [i64_w, i32_w]; rw [c12b0]) | skip)
        have H' := Aside0.mk H
        clear H
        go_wp2
        go_meet
        case rel => exact ⟨_, (decide (a1 > 10000000000000)), (by first | rfl | (simp; done) | (simp [*]; done)), H', ⟨by first | omega | exact Nat.le_refl _⟩, ⟨by (with_reducible repeat (first | apply Kd.R_alloc | apply Kd.R_drewN | apply Kd.R_drew)); exact HO409.out⟩, ⟨by repeat (first | (with_reducible first | exact HB.out | apply below_alloc | apply pw_below_drewN | apply below_drew1) | exact HB.out)⟩⟩
    case rest =>
      clear HC9
      try clear c1
      try clear c2
      try clear p2
      try clear c4
      try clear c7
      try clear c12
      try clear c12b0
      obtain ⟨kq, x39_8, rfl, HA, HJ8, HO_11, HB⟩ := hcut
      cases kq with
      | zero => exact absurd HA.out (by simp [slotmeshlaw04_WireNumbers.j0])
      | succ kj8 =>
        have H := HA.out
        clear HA
        simp only [slotmeshlaw04_WireNumbers.j0] at H
        by_cases c13 : x39_8 = true
        · subst c13
          have H1 : (if t404 = true then (if t407 = 3 then (some ((t406.length : Int) == 0)) else (none)) else (none)) = some r := by rw [if_pos rfl] at H; exact H
          clear H
          have H := H1
          clear H1
          by_cases c14 : t404 = true
          · subst c14
            have H1 : (if t407 = 3 then (some ((t406.length : Int) == 0)) else (none)) = some r := by rw [if_pos rfl] at H; exact H
            clear H
            have H := H1
            clear H1
            by_cases c15 : t407 = 3
            · rw [if_pos c15] at H
              have c15b0 : (t407 == 3) = true := beq_iff_eq.mpr c15
              have c15b1 : (t407 != 3) = false := bne_eq_false_iff_eq.mpr c15
              clear c15
              obtain rfl := Option.some.inj H
              obtain ⟨Ao16, co16, eo16⟩ := Kd.R_slice HO_11.out
              subst eo16
              go_wp2
              go_ret
              exact ⟨by first | rfl | (simp [errW_none, errW_some] <;> rfl) | (simp [*, errW_none, errW_some] <;> rfl), by repeat (first | (with_reducible first | exact HB.out | apply below_alloc | apply pw_below_drewN | apply below_drew1) | exact HB.out)⟩
            · rw [if_neg c15] at H
              exact absurd H (by simp)
          · replace c14 := Bool.eq_false_iff.mpr c14
            subst c14
            have H1 : (none) = some r := by rw [if_neg (show ¬ (false = true) by decide)] at H; exact H
            clear H
            have H := H1
            clear H1
            exact absurd H (by simp)
        · replace c13 := Bool.eq_false_iff.mpr c13
          subst c13
          have H1 : (if t407 = 0 then (if (t406.length : Int) ≤ (l0.length : Int) then (slotmeshlaw04_WireNumbers.j1 kj8 l0 a1 l2 a3 t404 t406 true) else (if (t406.length : Int) > (wrap64 ((l0.length : Int) + 7)) then (slotmeshlaw04_WireNumbers.j1 kj8 l0 a1 l2 a3 t404 t406 true) else (if a1 ≥ (-64) then (slotmeshlaw04_WireNumbers.j1 kj8 l0 a1 l2 a3 t404 t406 (((t406.length : Int) == (wrap64 ((l0.length : Int) + 1))) != (decide (a1 ≤ 63)))) else (slotmeshlaw04_WireNumbers.j1 kj8 l0 a1 l2 a3 t404 t406 (((t406.length : Int) == (wrap64 ((l0.length : Int) + 1))) != false))))) else (slotmeshlaw04_WireNumbers.j1 kj8 l0 a1 l2 a3 t404 t406 true)) = some r := by rw [if_neg (show ¬ (false = true) by decide)] at H; exact H
          clear H
          have H := H1
          clear H1
          have HC17 := Aside0.mk H
          clear H
          go_upto_region 8 with (fail)
          go_cut [81] (fun v81 wc => ∃ (kq : Nat) (x81_16 : Bool), v81 = .bool x81_16 ∧ Aside0 (slotmeshlaw04_WireNumbers.j1 kq l0 a1 l2 a3 t404 t406 x81_16 = some r) ∧ Aside0 (kq ≤ kj8) ∧ Aside0 (Kd.R (Kd.int .u8) 5 wc w.heap.size (fun _ => True) v408 t406) ∧ Aside0 (Below w.heap.size w wc))
          case first =>
            have H := HC17.out
            clear HC17
            by_cases c18 : t407 = 0
            · rw [if_pos c18] at H
              have c18b0 : (t407 == 0) = true := beq_iff_eq.mpr c18
              have c18b1 : (t407 != 0) = false := bne_eq_false_iff_eq.mpr c18
              clear c18
              (first | rw [c18b0] | (simp only [i64_w, i32_w]; rw [c18b0]) | skip)
              by_cases c19 : (t406.length : Int) ≤ (l0.length : Int)
              · rw [if_pos c19] at H
                have c19b0 : decide ((t406.length : Int) ≤ (l0.length : Int)) = true := decide_eq_true c19
                have c19b1 : decide (t406.length ≤ l0.length) = true := decide_eq_true (Int.ofNat_le.mp c19)
                clear c19
                have H' := Aside0.mk H
                clear H
                obtain ⟨Ao20, co20, eo20⟩ := Kd.R_slice HO_11.out
                subst eo20
                go_wp2
                go_meet
                case rel => exact ⟨_, (true), (by first | rfl | (simp; done) | (simp [*]; done)), H', ⟨by have := HJ8.out; first | omega | exact Nat.le_refl _⟩, ⟨by (with_reducible repeat (first | apply Kd.R_alloc | apply Kd.R_drewN | apply Kd.R_drew)); exact HO_11.out⟩, ⟨by repeat (first | (with_reducible first | exact HB.out | apply below_alloc | apply pw_below_drewN | apply below_drew1) | exact HB.out)⟩⟩
              · rw [if_neg c19] at H
                have c19b0 : decide ((t406.length : Int) ≤ (l0.length : Int)) = false := decide_eq_false c19
                have c19b1 : decide (t406.length ≤ l0.length) = false := decide_eq_false (fun h => c19 (Int.ofNat_le.mpr h))
                clear c19
                by_cases c21 : (t406.length : Int) > (wrap64 ((l0.length : Int) + 7))
                · rw [if_pos c21] at H
                  have c21b0 : decide ((wrap64 ((l0.length : Int) + 7)) < (t406.length : Int)) = true := decide_eq_true c21
                  clear c21
                  have H' := Aside0.mk H
                  clear H
                  obtain ⟨Ao22, co22, eo22⟩ := Kd.R_slice HO_11.out
                  subst eo22
                  go_wp2
                  go_meet
                  case rel => exact ⟨_, (true), (by first | rfl | (simp; done) | (simp [*]; done)), H', ⟨by have := HJ8.out; first | omega | exact Nat.le_refl _⟩, ⟨by (with_reducible repeat (first | apply Kd.R_alloc | apply Kd.R_drewN | apply Kd.R_drew)); exact HO_11.out⟩, ⟨by repeat (first | (with_reducible first | exact HB.out | apply below_alloc | apply pw_below_drewN | apply below_drew1) | exact HB.out)⟩⟩
                · rw [if_neg c21] at H
                  have c21b0 : decide ((wrap64 ((l0.length : Int) + 7)) < (t406.length : Int)) = false := decide_eq_false c21
                  clear c21
                  by_cases c23 : a1 ≥ (-64)
                  · rw [if_pos c23] at H
                    have c23b0 : decide ((-64) ≤ a1) = true := decide_eq_true c23
                    clear c23
                    have H' := Aside0.mk H
                    clear H
                    obtain ⟨Ao24, co24, eo24⟩ := Kd.R_slice HO_11.out
                    subst eo24
                    go_wp2
                    go_meet
                    case rel => exact ⟨_, ((((t406.length : Int) == (wrap64 ((l0.length : Int) + 1))) != (decide (a1 ≤ 63)))), (by first | rfl | (simp; done) | (simp [*]; done)), H', ⟨by have := HJ8.out; first | omega | exact Nat.le_refl _⟩, ⟨by (with_reducible repeat (first | apply Kd.R_alloc | apply Kd.R_drewN | apply Kd.R_drew)); exact HO_11.out⟩, ⟨by repeat (first | (with_reducible first | exact HB.out | apply below_alloc | apply pw_below_drewN | apply below_drew1) | exact HB.out)⟩⟩
                  · rw [if_neg c23] at H
                    have c23b0 : decide ((-64) ≤ a1) = false := decide_eq_false c23
                    clear c23
                    have H' := Aside0.mk H
                    clear H
                    obtain ⟨Ao25, co25, eo25⟩ := Kd.R_slice HO_11.out
                    subst eo25
                    go_wp2
                    go_meet
                    case rel => exact ⟨_, ((((t406.length : Int) == (wrap64 ((l0.length : Int) + 1))) != false)), (by first | rfl | (simp; done) | (simp [*]; done)), H', ⟨by have := HJ8.out; first | omega | exact Nat.le_refl _⟩, ⟨by (with_reducible repeat (first | apply Kd.R_alloc | apply Kd.R_drewN | apply Kd.R_drew)); exact HO_11.out⟩, ⟨by repeat (first | (with_reducible first | exact HB.out | apply below_alloc | apply pw_below_drewN | apply below_drew1) | exact HB.out)⟩⟩
            · rw [if_neg c18] at H
              have c18b0 : (t407 == 0) = false := beq_eq_false_iff_ne.mpr c18
              have c18b1 : (t407 != 0) = true := bne_iff_ne.mpr c18
              (first | rw [c18b0] | (simp only [i64_w, i32_w]; rw [c18b0]) | skip)
              have H' := Aside0.mk H
              clear H
              go_wp2
              go_meet
              case rel => exact ⟨_, (true), (by first | rfl | (simp; done) | (simp [*]; done)), H', ⟨by have := HJ8.out; first | omega | exact Nat.le_refl _⟩, ⟨by (with_reducible repeat (first | apply Kd.R_alloc | apply Kd.R_drewN | apply Kd.R_drew)); exact HO_11.out⟩, ⟨by repeat (first | (with_reducible first | exact HB.out | apply below_alloc | apply pw_below_drewN | apply below_drew1) | exact HB.out)⟩⟩
          case rest =>
            clear HC17
            try clear c1
            try clear c2
            try clear p2
            try clear c4
            try clear p6
            try clear c7
            try clear c12
            try clear c12b0
            try clear c13
            try clear c14
            try clear c15
            try clear c15b0
            try clear c15b1
            try clear c17
            try clear c18
            try clear c18b0
            try clear c18b1
            try clear c19
            try clear c19b0
            try clear c19b1
            try clear c21
            try clear c21b0
            try clear c23
            try clear c23b0
            try clear p2
            obtain ⟨kq, x81_16, rfl, HA, HJ16, HO_11, HB⟩ := hcut
            cases kq with
            | zero => exact absurd HA.out (by simp [slotmeshlaw04_WireNumbers.j1])
            | succ kj16 =>
              have H := HA.out
              clear HA
              simp only [slotmeshlaw04_WireNumbers.j1] at H
              by_cases c26 : x81_16 = true
              · subst c26
                have H1 : (some false) = some r := by rw [if_pos rfl] at H; exact H
                clear H
                have H := H1
                clear H1
                obtain rfl := Option.some.inj H
                go_wp2
                go_ret
                exact ⟨by first | rfl | (simp [errW_none, errW_some] <;> rfl) | (simp [*, errW_none, errW_some] <;> rfl), by repeat (first | (with_reducible first | exact HB.out | apply below_alloc | apply pw_below_drewN | apply below_drew1) | exact HB.out)⟩
              · replace c26 := Bool.eq_false_iff.mpr c26
                subst c26
                have H1 : (if 0 ≤ 281474976710656 then ((some (List.replicate 0 0 : List Int)).bind fun y410 => (if y410.length + t406.length < 140737488355328 then ((some (y410 ++ t406 : List Int)).bind fun y413 => (if y413.length + l2.length < 140737488355328 then ((wire_Number.f (y413 ++ l2) (l0.length : Int)).bind fun bt419 => (if t404 = true then (if bt419.2.2 = 0 then (if bt419.1 = a1 then (if bt419.2.1 = (t406.length : Int) then (if 0 ≤ (l0.length : Int) then (if (l0.length : Int) ≤ (t406.length : Int) then ((slotmeshref04_Same.f kj16 (t406.take ((l0.length : Int) : Int).toNat) l0).bind fun t426 => ((wire_Number.f l0 a3).bind fun bt427 => (if bt427.2.2 = 0 then (if a3 < 0 then (slotmeshlaw04_WireNumbers.j2 kj16 l0 a3 t426 bt427.1 bt427.2.1 true) else (if bt427.2.1 ≤ a3 then (slotmeshlaw04_WireNumbers.j2 kj16 l0 a3 t426 bt427.1 bt427.2.1 true) else (slotmeshlaw04_WireNumbers.j2 kj16 l0 a3 t426 bt427.1 bt427.2.1 (decide (bt427.2.1 > (l0.length : Int)))))) else (some t426)))) else (none)) else (none)) else (none)) else (none)) else (none)) else (none))) else (none))) else (none))) else (none)) = some r := by rw [if_neg (show ¬ (false = true) by decide)] at H; exact H
                clear H
                have H := H1
                clear H1
                by_cases c27 : 0 ≤ 281474976710656
                · rw [if_pos c27] at H
                  have c27b0 := eq_true c27
                  have c27b1 : decide (0 ≤ 281474976710656) = true := decide_eq_true c27
                  clear c27
                  obtain ⟨y410, hy410⟩ : ∃ y_ : List Int, y_ = (List.replicate 0 0) := ⟨_, rfl⟩
                  replace H : (if y410.length + t406.length < 140737488355328 then ((some (y410 ++ t406 : List Int)).bind fun y413 => (if y413.length + l2.length < 140737488355328 then ((wire_Number.f (y413 ++ l2) (l0.length : Int)).bind fun bt419 => (if t404 = true then (if bt419.2.2 = 0 then (if bt419.1 = a1 then (if bt419.2.1 = (t406.length : Int) then (if 0 ≤ (l0.length : Int) then (if (l0.length : Int) ≤ (t406.length : Int) then ((slotmeshref04_Same.f kj16 (t406.take ((l0.length : Int) : Int).toNat) l0).bind fun t426 => ((wire_Number.f l0 a3).bind fun bt427 => (if bt427.2.2 = 0 then (if a3 < 0 then (slotmeshlaw04_WireNumbers.j2 kj16 l0 a3 t426 bt427.1 bt427.2.1 true) else (if bt427.2.1 ≤ a3 then (slotmeshlaw04_WireNumbers.j2 kj16 l0 a3 t426 bt427.1 bt427.2.1 true) else (slotmeshlaw04_WireNumbers.j2 kj16 l0 a3 t426 bt427.1 bt427.2.1 (decide (bt427.2.1 > (l0.length : Int)))))) else (some t426)))) else (none)) else (none)) else (none)) else (none)) else (none)) else (none))) else (none))) else (none)) = some r := by first | (rw [hy410]; with_reducible exact H) | (have H2_ := (Option.bind_some _ _).symm.trans H; rw [hy410]; with_reducible exact H2_) | (have H2_ := (Option.bind_some _ _).symm.trans H; with_reducible exact H2_) | with_reducible exact H | (rw [hy410]; exact H) | exact H
                  have Ny410 := Aside0.mk hy410
                  clear hy410
                  by_cases c28 : y410.length + t406.length < 140737488355328
                  · rw [if_pos c28] at H
                    have LMc28 := Aside0.mk c28
                    clear c28
                    obtain ⟨y413, hy413⟩ : ∃ y_ : List Int, y_ = (y410 ++ t406) := ⟨_, rfl⟩
                    replace H : (if y413.length + l2.length < 140737488355328 then ((wire_Number.f (y413 ++ l2) (l0.length : Int)).bind fun bt419 => (if t404 = true then (if bt419.2.2 = 0 then (if bt419.1 = a1 then (if bt419.2.1 = (t406.length : Int) then (if 0 ≤ (l0.length : Int) then (if (l0.length : Int) ≤ (t406.length : Int) then ((slotmeshref04_Same.f kj16 (t406.take ((l0.length : Int) : Int).toNat) l0).bind fun t426 => ((wire_Number.f l0 a3).bind fun bt427 => (if bt427.2.2 = 0 then (if a3 < 0 then (slotmeshlaw04_WireNumbers.j2 kj16 l0 a3 t426 bt427.1 bt427.2.1 true) else (if bt427.2.1 ≤ a3 then (slotmeshlaw04_WireNumbers.j2 kj16 l0 a3 t426 bt427.1 bt427.2.1 true) else (slotmeshlaw04_WireNumbers.j2 kj16 l0 a3 t426 bt427.1 bt427.2.1 (decide (bt427.2.1 > (l0.length : Int)))))) else (some t426)))) else (none)) else (none)) else (none)) else (none)) else (none)) else (none))) else (none)) = some r := by first | (rw [hy413]; with_reducible exact H) | (have H2_ := (Option.bind_some _ _).symm.trans H; rw [hy413]; with_reducible exact H2_) | (have H2_ := (Option.bind_some _ _).symm.trans H; with_reducible exact H2_) | with_reducible exact H | (rw [hy413]; exact H) | exact H
                    have Ny413 := Aside0.mk hy413
                    clear hy413
                    by_cases c29 : y413.length + l2.length < 140737488355328
                    · rw [if_pos c29] at H
                      have LMc29 := Aside0.mk c29
                      clear c29
                      obtain ⟨y416, hy416⟩ : ∃ y_ : List Int, y_ = (y413 ++ l2) := ⟨_, rfl⟩
                      replace H : ((wire_Number.f y416 (l0.length : Int)).bind fun bt419 => (if t404 = true then (if bt419.2.2 = 0 then (if bt419.1 = a1 then (if bt419.2.1 = (t406.length : Int) then (if 0 ≤ (l0.length : Int) then (if (l0.length : Int) ≤ (t406.length : Int) then ((slotmeshref04_Same.f kj16 (t406.take ((l0.length : Int) : Int).toNat) l0).bind fun t426 => ((wire_Number.f l0 a3).bind fun bt427 => (if bt427.2.2 = 0 then (if a3 < 0 then (slotmeshlaw04_WireNumbers.j2 kj16 l0 a3 t426 bt427.1 bt427.2.1 true) else (if bt427.2.1 ≤ a3 then (slotmeshlaw04_WireNumbers.j2 kj16 l0 a3 t426 bt427.1 bt427.2.1 true) else (slotmeshlaw04_WireNumbers.j2 kj16 l0 a3 t426 bt427.1 bt427.2.1 (decide (bt427.2.1 > (l0.length : Int)))))) else (some t426)))) else (none)) else (none)) else (none)) else (none)) else (none)) else (none))) = some r := by first | (rw [hy416]; with_reducible exact H) | (have H2_ := (Option.bind_some _ _).symm.trans H; rw [hy416]; with_reducible exact H2_) | (have H2_ := (Option.bind_some _ _).symm.trans H; with_reducible exact H2_) | with_reducible exact H | (rw [hy416]; exact H) | exact H
                      have Ny416 := Aside0.mk hy416
                      clear hy416
                      replace H := Option.bind_eq_some_iff.mp H
                      obtain ⟨⟨t419, t420, t421⟩, A300, H⟩ := H
                      replace H : (if t404 = true then (if t421 = 0 then (if t419 = a1 then (if t420 = (t406.length : Int) then (if 0 ≤ (l0.length : Int) then (if (l0.length : Int) ≤ (t406.length : Int) then ((slotmeshref04_Same.f kj16 (t406.take ((l0.length : Int) : Int).toNat) l0).bind fun t426 => ((wire_Number.f l0 a3).bind fun bt427 => (if bt427.2.2 = 0 then (if a3 < 0 then (slotmeshlaw04_WireNumbers.j2 kj16 l0 a3 t426 bt427.1 bt427.2.1 true) else (if bt427.2.1 ≤ a3 then (slotmeshlaw04_WireNumbers.j2 kj16 l0 a3 t426 bt427.1 bt427.2.1 true) else (slotmeshlaw04_WireNumbers.j2 kj16 l0 a3 t426 bt427.1 bt427.2.1 (decide (bt427.2.1 > (l0.length : Int)))))) else (some t426)))) else (none)) else (none)) else (none)) else (none)) else (none)) else (none)) = some r := H
                      have A30 := Aside0.mk A300
                      clear A300
                      by_cases c31 : t404 = true
                      · subst c31
                        have H1 : (if t421 = 0 then (if t419 = a1 then (if t420 = (t406.length : Int) then (if 0 ≤ (l0.length : Int) then (if (l0.length : Int) ≤ (t406.length : Int) then ((slotmeshref04_Same.f kj16 (t406.take ((l0.length : Int) : Int).toNat) l0).bind fun t426 => ((wire_Number.f l0 a3).bind fun bt427 => (if bt427.2.2 = 0 then (if a3 < 0 then (slotmeshlaw04_WireNumbers.j2 kj16 l0 a3 t426 bt427.1 bt427.2.1 true) else (if bt427.2.1 ≤ a3 then (slotmeshlaw04_WireNumbers.j2 kj16 l0 a3 t426 bt427.1 bt427.2.1 true) else (slotmeshlaw04_WireNumbers.j2 kj16 l0 a3 t426 bt427.1 bt427.2.1 (decide (bt427.2.1 > (l0.length : Int)))))) else (some t426)))) else (none)) else (none)) else (none)) else (none)) else (none)) = some r := by rw [if_pos rfl] at H; exact H
                        clear H
                        have H := H1
                        clear H1
                        by_cases c32 : t421 = 0
                        · rw [if_pos c32] at H
                          have c32b0 : (t421 == 0) = true := beq_iff_eq.mpr c32
                          have c32b1 : (t421 != 0) = false := bne_eq_false_iff_eq.mpr c32
                          clear c32
                          by_cases c33 : t419 = a1
                          · rw [if_pos c33] at H
                            have c33b0 : (t419 == a1) = true := beq_iff_eq.mpr c33
                            have c33b1 : (t419 != a1) = false := bne_eq_false_iff_eq.mpr c33
                            clear c33
                            by_cases c34 : t420 = (t406.length : Int)
                            · rw [if_pos c34] at H
                              have c34b0 : (t420 == (t406.length : Int)) = true := beq_iff_eq.mpr c34
                              have c34b1 : (t420 != (t406.length : Int)) = false := bne_eq_false_iff_eq.mpr c34
                              clear c34
                              by_cases c35 : 0 ≤ (l0.length : Int)
                              · rw [if_pos c35] at H
                                have c35b0 := eq_true c35
                                have c35b1 : decide (0 ≤ (l0.length : Int)) = true := decide_eq_true c35
                                clear c35
                                by_cases c36 : (l0.length : Int) ≤ (t406.length : Int)
                                · rw [if_pos c36] at H
                                  have c36b0 := eq_true c36
                                  have c36b1 : decide ((l0.length : Int) ≤ (t406.length : Int)) = true := decide_eq_true c36
                                  clear c36
                                  obtain ⟨y422, hy422⟩ : ∃ y_ : List Int, y_ = (t406.take ((l0.length : Int) : Int).toNat) := ⟨_, rfl⟩
                                  replace H : ((slotmeshref04_Same.f kj16 y422 l0).bind fun t426 => ((wire_Number.f l0 a3).bind fun bt427 => (if bt427.2.2 = 0 then (if a3 < 0 then (slotmeshlaw04_WireNumbers.j2 kj16 l0 a3 t426 bt427.1 bt427.2.1 true) else (if bt427.2.1 ≤ a3 then (slotmeshlaw04_WireNumbers.j2 kj16 l0 a3 t426 bt427.1 bt427.2.1 true) else (slotmeshlaw04_WireNumbers.j2 kj16 l0 a3 t426 bt427.1 bt427.2.1 (decide (bt427.2.1 > (l0.length : Int)))))) else (some t426)))) = some r := by first | (rw [hy422]; with_reducible exact H) | (have H2_ := (Option.bind_some _ _).symm.trans H; rw [hy422]; with_reducible exact H2_) | (have H2_ := (Option.bind_some _ _).symm.trans H; with_reducible exact H2_) | with_reducible exact H | (rw [hy422]; exact H) | exact H
                                  have Ny422 := Aside0.mk hy422
                                  clear hy422
                                  replace H := Option.bind_eq_some_iff.mp H
                                  obtain ⟨t426, A370, H⟩ := H
                                  replace H : ((wire_Number.f l0 a3).bind fun bt427 => (if bt427.2.2 = 0 then (if a3 < 0 then (slotmeshlaw04_WireNumbers.j2 kj16 l0 a3 t426 bt427.1 bt427.2.1 true) else (if bt427.2.1 ≤ a3 then (slotmeshlaw04_WireNumbers.j2 kj16 l0 a3 t426 bt427.1 bt427.2.1 true) else (slotmeshlaw04_WireNumbers.j2 kj16 l0 a3 t426 bt427.1 bt427.2.1 (decide (bt427.2.1 > (l0.length : Int)))))) else (some t426))) = some r := H
                                  have A37 := Aside0.mk A370
                                  clear A370
                                  replace H := Option.bind_eq_some_iff.mp H
                                  obtain ⟨⟨t427, t428, t429⟩, A380, H⟩ := H
                                  replace H : (if t429 = 0 then (if a3 < 0 then (slotmeshlaw04_WireNumbers.j2 kj16 l0 a3 t426 t427 t428 true) else (if t428 ≤ a3 then (slotmeshlaw04_WireNumbers.j2 kj16 l0 a3 t426 t427 t428 true) else (slotmeshlaw04_WireNumbers.j2 kj16 l0 a3 t426 t427 t428 (decide (t428 > (l0.length : Int)))))) else (some t426)) = some r := H
                                  have A38 := Aside0.mk A380
                                  clear A380
                                  by_cases c39 : t429 = 0
                                  · rw [if_pos c39] at H
                                    have c39b0 : (t429 == 0) = true := beq_iff_eq.mpr c39
                                    have c39b1 : (t429 != 0) = false := bne_eq_false_iff_eq.mpr c39
                                    clear c39
                                    have HC40 := Aside0.mk H
                                    clear H
                                    go_upto_region 15 with (first | ((with_reducible refine gate_dst (N := 83) rfl ?_); (try (refine gate_guard (by rfl) ?_; dsimp only)); refine Kd.R_make0 20000 (Kd.int .u8) _ 5 rfl (N := 83) rfl 22 _ _ rfl 0 rfl rfl Try.underlying22 (.int .u8 0) 1 info5 rfl (by decide) (by omega) 0 (ok := fun _ => True) (okp := fun _ => True) rfl (fun _ hk => hk) trivial rfl (by omega) (Below.refl _ _) (Nat.le_refl _) ?_; intro v411 w41 ho42 hb hg_ hnew_; clear hg_ hnew_; (first | rw [← Ny410.out] at ho42 | (simp only [Int.reduceToNat] at ho42; rw [← Ny410.out] at ho42)); have n0_ := Aside0.mk (Kd.R_elder' (by (with_reducible repeat (first | apply Kd.R_alloc | apply Kd.R_drewN | apply Kd.R_drew)); exact HO_11.out) (Kd.R_base ho42) hb); have n1_ := Aside0.mk (Kd.R_lower (Kd.R_new' ho42 (Kd.R_lt (by (with_reducible repeat (first | apply Kd.R_alloc | apply Kd.R_drewN | apply Kd.R_drew)); exact HO_11.out))) (below_size (by repeat (first | (with_reducible first | exact HB.out | apply below_alloc | apply pw_below_drewN | apply below_drew1) | exact HB.out)))); have n2_ := Aside0.mk (below_step (by repeat (first | (with_reducible first | exact HB.out | apply below_alloc | apply pw_below_drewN | apply below_drew1) | exact HB.out)) hb); clear HO_11; clear HB; have HO_11 := n0_; have HO412 := n1_; have HB := n2_; clear n0_ n1_ n2_; clear hb ho42; obtain ⟨Ao44, co44, eo44⟩ := Kd.R_slice HO_11.out; subst eo44) | ((with_reducible refine gate_builtin (b := .append) (xs := #[.tmp 83, .tmp 84]) rfl ?_); (try (refine gate_guard (by rfl) ?_; dsimp only)); at_builtin; refine Kd.R_append_rows (Kd.int .u8) (w0 := w) w.heap.size rfl (.tmp 83) (.tmp 84) 22 5 (.int .u8 0) 1 rfl Try.underlying22 info5 rfl (by decide) (by omega) v411 y410 t406 _ _ _ (fun k_ => some k_ ≠ (.slice Ao44 t406.length co44 : Value).ownBlock) (fun _ => False) rfl rfl ?aO ?aR (fun _ _ h => h) (fun _ h => h.elim) ?aF ?aB ?aS ?aL ?_; (case aR => repeat (first | exact (Kd.R_reads' HO_11.out).2.2 | (with_reducible refine Kd.C_alloc ?_ _) | (with_reducible refine Kd.C_drewN ?_ _) | (with_reducible refine Kd.C_drew ?_))); (case aB => exact (by repeat (first | (with_reducible first | exact HB.out | apply below_alloc | apply pw_below_drewN | apply below_drew1) | exact HB.out))); (case aF => exact (fun k_ hk => Kd.fresh' (Kd.R_lt (by (with_reducible repeat (first | apply Kd.R_alloc | apply Kd.R_drewN | apply Kd.R_drew)); exact HO_11.out)) k_ hk)); (case aO => exact (by (with_reducible repeat (first | apply Kd.R_alloc | apply Kd.R_drewN | apply Kd.R_drew)); exact Kd.R_mono HO412.out (fun _ hk => hk.2))); (case aS => exact (below_size (by repeat (first | (with_reducible first | exact HB.out | apply below_alloc | apply pw_below_drewN | apply below_drew1) | exact HB.out)))); (case aL => have := LMc28.out; omega); intro v414 w43 ho hb hg hat; rw [← Ny413.out] at ho; have n0_ := Aside0.mk (Kd.R_after (ok := (fun _ => True)) (by (with_reducible repeat (first | apply Kd.R_alloc | apply Kd.R_drewN | apply Kd.R_drew)); exact HO_11.out) hg hat); have n1_ := Aside0.mk (hb); have n2_ := Aside0.mk (ho); clear HO_11; clear HB; clear HO412; have HO_11 := n0_; have HB := n1_; have HO415 := n2_; clear n0_ n1_ n2_; clear ho hb hg hat) | ((with_reducible refine gate_builtin (b := .append) (xs := #[.tmp 85, .tmp 86]) rfl ?_); (try (refine gate_guard (by rfl) ?_; dsimp only)); at_builtin; refine Kd.R_append_rows (Kd.int .u8) (w0 := w) w.heap.size rfl (.tmp 85) (.tmp 86) 22 5 (.int .u8 0) 1 rfl Try.underlying22 info5 rfl (by decide) (by omega) v414 y413 l2 _ _ _ (fun k_ => some k_ ≠ (.slice Ao44 t406.length co44 : Value).ownBlock) (fun _ => False) rfl rfl ?aO ?aR (fun _ _ h => h) (fun _ h => h.elim) ?aF ?aB ?aS ?aL ?_; (case aR => repeat (first | exact (Kd.C_below HR2.out HB.out) | (with_reducible refine Kd.C_alloc ?_ _) | (with_reducible refine Kd.C_drewN ?_ _) | (with_reducible refine Kd.C_drew ?_))); (case aB => exact (by repeat (first | (with_reducible first | exact HB.out | apply below_alloc | apply pw_below_drewN | apply below_drew1) | exact HB.out))); (case aF => exact (fun k_ hk => Kd.fresh' (Kd.R_lt (by (with_reducible repeat (first | apply Kd.R_alloc | apply Kd.R_drewN | apply Kd.R_drew)); exact HO_11.out)) k_ hk)); (case aO => exact (by (with_reducible repeat (first | apply Kd.R_alloc | apply Kd.R_drewN | apply Kd.R_drew)); exact HO415.out)); (case aS => exact (below_size (by repeat (first | (with_reducible first | exact HB.out | apply below_alloc | apply pw_below_drewN | apply below_drew1) | exact HB.out)))); (case aL => have := LMc29.out; omega); intro v417 w45 ho hb hg hat; rw [← Ny416.out] at ho; have n0_ := Aside0.mk (Kd.R_after (ok := (fun _ => True)) (by (with_reducible repeat (first | apply Kd.R_alloc | apply Kd.R_drewN | apply Kd.R_drew)); exact HO_11.out) hg hat); have n1_ := Aside0.mk (hb); have n2_ := Aside0.mk (ho); clear HO_11; clear HB; clear HO415; have HO_11 := n0_; have HB := n1_; have HO418 := n2_; clear n0_ n1_ n2_; clear ho hb hg hat; obtain ⟨Ao46, co46, eo46⟩ := Kd.R_slice HO418.out; subst eo46) | ((with_reducible refine gate_callee (f := 22) rfl ?_); refine goesL_ (some 90) rfl rfl Try.func22 (by kernel_rfl) rfl #[.slice Ao46 y416.length co46, .int .i64 (l0.length : Int)] rfl (by (try simp only [List.map_toArray, List.map_cons, List.map_nil]); first | done | rfl | (simp only [List.length_drop, List.length_take]; rfl)) ?_; (with_reducible refine (wire_Number.calls _ _ y416 (l0.length : Int) t419 t420 t421 _ ?side1 ?side2 A30.out).mono ?_); (case side1 => repeat (first | exact (Kd.R_reads' HO418.out).2.2 | (with_reducible refine Kd.C_alloc ?_ _) | (with_reducible refine Kd.C_drewN ?_ _) | (with_reducible refine Kd.C_drew ?_))); (case side2 => exact (Kd.R_reads' HO418.out).2.1); rintro e w' ⟨rfl, ⟨nd, rfl⟩⟩; refine ⟨_, rfl, ?_⟩; have q47 : ((l0.length : Int) : Int) ≤ ((t406.length : Int) : Int) := of_decide_eq_true (by first | (with_reducible assumption) | assumption); obtain ⟨i047, hi047, _, hsz47, _⟩ := info_parts info5; have hroom47 : t406.length ≤ co44 := (Kd.R_reads' HO_11.out).2.1; have hC47 : Kd.C (Kd.int .u8) _ Ao44 t406.length t406 := (Kd.R_reads' HO_11.out).2.2; have hcut47 := cut_to (P := Try.prog) 22 5 .i64 Try.underlying22 hi047 Ao44 t406.length co44 (l0.length : Int) (of_decide_eq_true (by first | (with_reducible assumption) | assumption)) q47 hroom47; have hr47 := Kd.C_take (m := ((l0.length : Int) : Int).toNat) hC47 (by omega); have hy47 : y422.length = ((l0.length : Int) : Int).toNat := (by rw [Ny422.out, List.length_take]; omega); rw [← Ny422.out] at hr47; rw [← hy47] at hcut47; have HR425 := Aside0.mk hr47; have HC425 := Aside0.mk (show y422.length ≤ co44 from by omega); clear hr47 hC47 hroom47 hi047 hsz47; have KY47 := Aside0.mk hy47; clear hy47; have KL47 := Aside0.mk (show ((l0.length : Int) : Int).toNat ≤ t406.length from by omega); replace q47 := eq_true q47) | (go_at_call 21; (with_reducible refine (slotmeshref04_Same.calls kj16 _ _ y422 _ _ l0 t426 _ ?side1 ?side2 ?side3 ?side4 A37.out).mono ?_); (case side1 => repeat (first | exact (by repeat (first | (with_reducible exact HR425.out) | (with_reducible refine Kd.C_alloc ?_ _) | (with_reducible refine Kd.C_drewN ?_ _) | (with_reducible refine Kd.C_drew ?_) | exact HR425.out)) | (with_reducible refine Kd.C_alloc ?_ _) | (with_reducible refine Kd.C_drewN ?_ _) | (with_reducible refine Kd.C_drew ?_))); (case side2 => exact HC425.out); (case side3 => repeat (first | exact (Kd.C_below HR0.out (by repeat (first | (with_reducible first | exact HB.out | apply below_alloc | apply pw_below_drewN | apply below_drew1) | exact HB.out))) | (with_reducible refine Kd.C_alloc ?_ _) | (with_reducible refine Kd.C_drewN ?_ _) | (with_reducible refine Kd.C_drew ?_))); (case side4 => exact HC0.out); rintro e w' ⟨rfl, ⟨nd, rfl⟩⟩) | ((with_reducible refine gate_callee (f := 22) rfl ?_); refine goesL_ (some 121) rfl rfl Try.func22 (by kernel_rfl) rfl #[.slice A0 l0.length c0, .int .i64 a3] rfl (by (try simp only [List.map_toArray, List.map_cons, List.map_nil]); first | done | rfl | (simp only [List.length_drop, List.length_take]; rfl)) ?_; (with_reducible refine (wire_Number.calls _ _ l0 a3 t427 t428 t429 _ ?side1 ?side2 A38.out).mono ?_); (case side1 => repeat (first | exact (Kd.C_below HR0.out (by repeat (first | (with_reducible first | exact HB.out | apply below_alloc | apply pw_below_drewN | apply below_drew1) | exact HB.out))) | (with_reducible refine Kd.C_alloc ?_ _) | (with_reducible refine Kd.C_drewN ?_ _) | (with_reducible refine Kd.C_drew ?_))); (case side2 => exact HC0.out); rintro e w' ⟨rfl, ⟨nd, rfl⟩⟩; refine ⟨_, rfl, ?_⟩))
                                    (try simp only [Act.put, List.setIfInBounds_toArray, List.set_cons_zero, List.set_cons_succ])
                                    go_cut [140] (fun v140 wc => ∃ (kq : Nat) (x140_39 : Bool), v140 = .bool x140_39 ∧ Aside0 (slotmeshlaw04_WireNumbers.j2 kq l0 a3 t426 t427 t428 x140_39 = some r) ∧ Aside0 (kq ≤ kj16) ∧ Aside0 (Kd.C (Kd.int .u8) wc Ao44 y422.length y422) ∧ Aside0 (Below w.heap.size w wc))
                                    case first =>
                                      have H := HC40.out
                                      clear HC40
                                      by_cases c48 : a3 < 0
                                      · rw [if_pos c48] at H
                                        have c48b0 : decide (a3 < 0) = true := decide_eq_true c48
                                        clear c48
                                        (first | rw [c48b0] | (simp only [i64_w, i32_w]; rw [c48b0]) | skip)
                                        have H' := Aside0.mk H
                                        clear H
                                        go_wp2
                                        go_meet
                                        case rel => exact ⟨_, (true), (by first | rfl | (simp; done) | (simp [*]; done)), H', ⟨by have := HJ8.out; have := HJ16.out; first | omega | exact Nat.le_refl _⟩, ⟨by repeat (first | (with_reducible exact HR425.out) | (with_reducible refine Kd.C_alloc ?_ _) | (with_reducible refine Kd.C_drewN ?_ _) | (with_reducible refine Kd.C_drew ?_) | exact HR425.out)⟩, ⟨by repeat (first | (with_reducible first | exact HB.out | apply below_alloc | apply pw_below_drewN | apply below_drew1) | exact HB.out)⟩⟩
                                      · rw [if_neg c48] at H
                                        have c48b0 : decide (a3 < 0) = false := decide_eq_false c48
                                        clear c48
                                        (first | rw [c48b0] | (simp only [i64_w, i32_w]; rw [c48b0]) | skip)
                                        by_cases c49 : t428 ≤ a3
                                        · rw [if_pos c49] at H
                                          have c49b0 : decide (t428 ≤ a3) = true := decide_eq_true c49
                                          clear c49
                                          have H' := Aside0.mk H
                                          clear H
                                          go_wp2
                                          go_meet
                                          case rel => exact ⟨_, (true), (by first | rfl | (simp; done) | (simp [*]; done)), H', ⟨by have := HJ8.out; have := HJ16.out; first | omega | exact Nat.le_refl _⟩, ⟨by repeat (first | (with_reducible exact HR425.out) | (with_reducible refine Kd.C_alloc ?_ _) | (with_reducible refine Kd.C_drewN ?_ _) | (with_reducible refine Kd.C_drew ?_) | exact HR425.out)⟩, ⟨by repeat (first | (with_reducible first | exact HB.out | apply below_alloc | apply pw_below_drewN | apply below_drew1) | exact HB.out)⟩⟩
                                        · rw [if_neg c49] at H
                                          have c49b0 : decide (t428 ≤ a3) = false := decide_eq_false c49
                                          clear c49
                                          have H' := Aside0.mk H
                                          clear H
                                          go_wp2
                                          go_meet
                                          case rel => exact ⟨_, (decide (t428 > (l0.length : Int))), (by first | rfl | (simp; done) | (simp [*]; done)), H', ⟨by have := HJ8.out; have := HJ16.out; first | omega | exact Nat.le_refl _⟩, ⟨by repeat (first | (with_reducible exact HR425.out) | (with_reducible refine Kd.C_alloc ?_ _) | (with_reducible refine Kd.C_drewN ?_ _) | (with_reducible refine Kd.C_drew ?_) | exact HR425.out)⟩, ⟨by repeat (first | (with_reducible first | exact HB.out | apply below_alloc | apply pw_below_drewN | apply below_drew1) | exact HB.out)⟩⟩
                                    case rest =>
                                      clear HC40
                                      try clear c1
                                      try clear c2
                                      try clear p2
                                      try clear c3
                                      try clear c4
                                      try clear q4
                                      try clear p6
                                      try clear c7
                                      try clear c12
                                      try clear c12b0
                                      try clear c13
                                      try clear c14
                                      try clear c15
                                      try clear c15b0
                                      try clear c15b1
                                      try clear c17
                                      try clear c18
                                      try clear c18b0
                                      try clear c18b1
                                      try clear c19
                                      try clear c19b0
                                      try clear c19b1
                                      try clear c21
                                      try clear c21b0
                                      try clear c22
                                      try clear c23
                                      try clear c23b0
                                      try clear c26
                                      try clear c27
                                      try clear c27b0
                                      try clear c27b1
                                      try clear c28
                                      try clear c29
                                      try clear c31
                                      try clear c32
                                      try clear c32b0
                                      try clear c32b1
                                      try clear c33
                                      try clear c33b0
                                      try clear c33b1
                                      try clear c34
                                      try clear c34b0
                                      try clear c34b1
                                      try clear c35
                                      try clear c35b0
                                      try clear c35b1
                                      try clear c36
                                      try clear c36b0
                                      try clear c36b1
                                      try clear c39
                                      try clear c39b0
                                      try clear c39b1
                                      try clear q47
                                      try clear c48
                                      try clear c48b0
                                      try clear c49
                                      try clear c49b0
                                      try clear p2
                                      try clear p6
                                      try clear q47
                                      obtain ⟨kq, x140_39, rfl, HA, HJ39, HR425, HB⟩ := hcut
                                      cases kq with
                                      | zero => exact absurd HA.out (by simp [slotmeshlaw04_WireNumbers.j2])
                                      | succ kj39 =>
                                        have H := HA.out
                                        clear HA
                                        simp only [slotmeshlaw04_WireNumbers.j2] at H
                                        by_cases c50 : x140_39 = true
                                        · subst c50
                                          have H1 : (some false) = some r := by rw [if_pos rfl] at H; exact H
                                          clear H
                                          have H := H1
                                          clear H1
                                          obtain rfl := Option.some.inj H
                                          go_wp2
                                          go_ret
                                          exact ⟨by first | rfl | (simp [errW_none, errW_some] <;> rfl) | (simp [*, errW_none, errW_some] <;> rfl), by repeat (first | (with_reducible first | exact HB.out | apply below_alloc | apply pw_below_drewN | apply below_drew1) | exact HB.out)⟩
                                        · replace c50 := Bool.eq_false_iff.mpr c50
                                          subst c50
                                          have H1 : ((wire_PutNumber.f kj39 ([] : List Int) t427).bind fun bt430 => (if t426 = true then (if bt430.2 = 0 then (if 0 ≤ a3 then (if a3 ≤ t428 then (if t428 ≤ (l0.length : Int) then ((slotmeshref04_Same.f kj39 bt430.1 ((l0.take (t428 : Int).toNat).drop (a3 : Int).toNat)).bind fun t435 => (some t435)) else (none)) else (none)) else (none)) else (none)) else (none))) = some r := by rw [if_neg (show ¬ (false = true) by decide)] at H; exact H
                                          clear H
                                          have H := H1
                                          clear H1
                                          replace H := Option.bind_eq_some_iff.mp H
                                          obtain ⟨⟨t430, t431⟩, A510, H⟩ := H
                                          replace H : (if t426 = true then (if t431 = 0 then (if 0 ≤ a3 then (if a3 ≤ t428 then (if t428 ≤ (l0.length : Int) then ((slotmeshref04_Same.f kj39 t430 ((l0.take (t428 : Int).toNat).drop (a3 : Int).toNat)).bind fun t435 => (some t435)) else (none)) else (none)) else (none)) else (none)) else (none)) = some r := H
                                          have A51 := Aside0.mk A510
                                          clear A510
                                          by_cases c52 : t426 = true
                                          · subst c52
                                            have H1 : (if t431 = 0 then (if 0 ≤ a3 then (if a3 ≤ t428 then (if t428 ≤ (l0.length : Int) then ((slotmeshref04_Same.f kj39 t430 ((l0.take (t428 : Int).toNat).drop (a3 : Int).toNat)).bind fun t435 => (some t435)) else (none)) else (none)) else (none)) else (none)) = some r := by rw [if_pos rfl] at H; exact H
                                            clear H
                                            have H := H1
                                            clear H1
                                            by_cases c53 : t431 = 0
                                            · rw [if_pos c53] at H
                                              have c53b0 : (t431 == 0) = true := beq_iff_eq.mpr c53
                                              have c53b1 : (t431 != 0) = false := bne_eq_false_iff_eq.mpr c53
                                              clear c53
                                              by_cases c54 : 0 ≤ a3
                                              · rw [if_pos c54] at H
                                                have c54b0 := eq_true c54
                                                have c54b1 : decide (0 ≤ a3) = true := decide_eq_true c54
                                                clear c54
                                                by_cases c55 : a3 ≤ t428
                                                · rw [if_pos c55] at H
                                                  have c55b0 := eq_true c55
                                                  have c55b1 : decide (a3 ≤ t428) = true := decide_eq_true c55
                                                  clear c55
                                                  by_cases c56 : t428 ≤ (l0.length : Int)
                                                  · rw [if_pos c56] at H
                                                    have c56b0 := eq_true c56
                                                    have c56b1 : decide (t428 ≤ (l0.length : Int)) = true := decide_eq_true c56
                                                    clear c56
                                                    replace H := Option.bind_eq_some_iff.mp H
                                                    obtain ⟨t435, A570, H⟩ := H
                                                    replace H : (some t435) = some r := H
                                                    have A57 := Aside0.mk A570
                                                    clear A570
                                                    obtain rfl := Option.some.inj H
                                                    go_wp2_with (first | ((with_reducible refine gate_callee (f := 19) rfl ?_); refine goesL_ (some 143) rfl rfl Try.func19 (by kernel_rfl) rfl #[.slice none 0 0, .int .i64 t427] rfl (by (try simp only [List.map_toArray, List.map_cons, List.map_nil]); first | done | rfl | (simp only [List.length_drop, List.length_take]; rfl)) ?_; (refine (wire_PutNumber.calls kj39 _ _ ([] : List Int) t427 t430 t431 _ ?side1 ?side2 A51.out).mono ?_); (case side1 => exact Kd.C_nil _ _); (case side2 => exact Nat.le_refl _); rintro e w58 ⟨v432, rfl, ho0, hb⟩; refine ⟨_, rfl, ?_⟩; have n0_ := Aside0.mk (Kd.R_lower ho0 (below_size (by repeat (first | (with_reducible first | exact HB.out | apply below_alloc | apply pw_below_drewN | apply below_drew1) | exact HB.out)))); have n1_ := Aside0.mk (Kd.C_below (by repeat (first | (with_reducible exact HR425.out) | (with_reducible refine Kd.C_alloc ?_ _) | (with_reducible refine Kd.C_drewN ?_ _) | (with_reducible refine Kd.C_drew ?_) | exact HR425.out)) hb); have n2_ := Aside0.mk (below_step (by repeat (first | (with_reducible first | exact HB.out | apply below_alloc | apply pw_below_drewN | apply below_drew1) | exact HB.out)) hb); clear HR425; clear HB; have HO433 := n0_; have HR425 := n1_; have HB := n2_; clear n0_ n1_ n2_; (try clear hb); (try clear hb2); (try clear hk); (try clear hi); (try clear ho0); obtain ⟨i059, hi059, _, hsz59, _⟩ := info_parts info5; obtain ⟨A59, hcut59, hA59, hC59⟩ := print_mid_of (P := Try.prog) (Value.int .u8) 0 22 5 .i64 .i64 Try.underlying22 hi059 hsz59 A0 c0 l0 a3 t428 (of_decide_eq_true (by first | (with_reducible assumption) | assumption)) (by first | omega | exact of_decide_eq_true (by first | (with_reducible assumption) | assumption)) (of_decide_eq_true (by first | (with_reducible assumption) | assumption)) HC0.out; have HR434 := Aside0.mk (Kd.C_of_reads (h1 := fun _ => rfl) (hA59 _ (Kd.reads_of_C HR0.out))); have HC434 := Aside0.mk hC59; clear hA59 hC59 hi059 hsz59; obtain ⟨Ao60, co60, eo60⟩ := Kd.R_slice HO433.out; subst eo60) | (go_at_call 21; rw [show (t428 : Int).toNat - (a3 : Int).toNat = ((l0.take (t428 : Int).toNat).drop (a3 : Int).toNat).length from by have h1_ : t428 ≤ (l0.length : Int) := of_decide_eq_true (by first | (with_reducible assumption) | assumption); simp only [List.length_drop, List.length_take]; omega]; (with_reducible refine (slotmeshref04_Same.calls kj39 _ _ t430 _ _ ((l0.take (t428 : Int).toNat).drop (a3 : Int).toNat) t435 _ ?side1 ?side2 ?side3 ?side4 A57.out).mono ?_); (case side1 => repeat (first | exact (Kd.R_reads' HO433.out).2.2 | (with_reducible refine Kd.C_alloc ?_ _) | (with_reducible refine Kd.C_drewN ?_ _) | (with_reducible refine Kd.C_drew ?_))); (case side2 => exact (Kd.R_reads' HO433.out).2.1); (case side3 => repeat (first | exact (Kd.C_below HR434.out HB.out) | (with_reducible refine Kd.C_alloc ?_ _) | (with_reducible refine Kd.C_drewN ?_ _) | (with_reducible refine Kd.C_drew ?_))); (case side4 => exact HC434.out); rintro e w' ⟨rfl, ⟨nd, rfl⟩⟩))
                                                    go_ret
                                                    exact ⟨by first | rfl | (simp [errW_none, errW_some] <;> rfl) | (simp [*, errW_none, errW_some] <;> rfl), by repeat (first | (with_reducible first | exact HB.out | apply below_alloc | apply pw_below_drewN | apply below_drew1) | exact HB.out)⟩
                                                  · rw [if_neg c56] at H
                                                    exact absurd H (by simp)
                                                · rw [if_neg c55] at H
                                                  exact absurd H (by simp)
                                              · rw [if_neg c54] at H
                                                exact absurd H (by simp)
                                            · rw [if_neg c53] at H
                                              exact absurd H (by simp)
                                          · replace c52 := Bool.eq_false_iff.mpr c52
                                            subst c52
                                            have H1 : (none) = some r := by rw [if_neg (show ¬ (false = true) by decide)] at H; exact H
                                            clear H
                                            have H := H1
                                            clear H1
                                            exact absurd H (by simp)
                                  · rw [if_neg c39] at H
                                    have c39b0 : (t429 == 0) = false := beq_eq_false_iff_ne.mpr c39
                                    have c39b1 : (t429 != 0) = true := bne_iff_ne.mpr c39
                                    obtain rfl := Option.some.inj H
                                    go_wp2_with (first | ((with_reducible refine gate_dst (N := 83) rfl ?_); (try (refine gate_guard (by rfl) ?_; dsimp only)); refine Kd.R_make0 20000 (Kd.int .u8) _ 5 rfl (N := 83) rfl 22 _ _ rfl 0 rfl rfl Try.underlying22 (.int .u8 0) 1 info5 rfl (by decide) (by omega) 0 (ok := fun _ => True) (okp := fun _ => True) rfl (fun _ hk => hk) trivial rfl (by omega) (Below.refl _ _) (Nat.le_refl _) ?_; intro v411 w61 ho62 hb hg_ hnew_; clear hg_ hnew_; (first | rw [← Ny410.out] at ho62 | (simp only [Int.reduceToNat] at ho62; rw [← Ny410.out] at ho62)); have n0_ := Aside0.mk (Kd.R_elder' (by (with_reducible repeat (first | apply Kd.R_alloc | apply Kd.R_drewN | apply Kd.R_drew)); exact HO_11.out) (Kd.R_base ho62) hb); have n1_ := Aside0.mk (Kd.R_lower (Kd.R_new' ho62 (Kd.R_lt (by (with_reducible repeat (first | apply Kd.R_alloc | apply Kd.R_drewN | apply Kd.R_drew)); exact HO_11.out))) (below_size (by repeat (first | (with_reducible first | exact HB.out | apply below_alloc | apply pw_below_drewN | apply below_drew1) | exact HB.out)))); have n2_ := Aside0.mk (below_step (by repeat (first | (with_reducible first | exact HB.out | apply below_alloc | apply pw_below_drewN | apply below_drew1) | exact HB.out)) hb); clear HO_11; clear HB; have HO_11 := n0_; have HO412 := n1_; have HB := n2_; clear n0_ n1_ n2_; clear hb ho62; obtain ⟨Ao64, co64, eo64⟩ := Kd.R_slice HO_11.out; subst eo64) | ((with_reducible refine gate_builtin (b := .append) (xs := #[.tmp 83, .tmp 84]) rfl ?_); (try (refine gate_guard (by rfl) ?_; dsimp only)); at_builtin; refine Kd.R_append_rows (Kd.int .u8) (w0 := w) w.heap.size rfl (.tmp 83) (.tmp 84) 22 5 (.int .u8 0) 1 rfl Try.underlying22 info5 rfl (by decide) (by omega) v411 y410 t406 _ _ _ (fun k_ => some k_ ≠ (.slice Ao64 t406.length co64 : Value).ownBlock) (fun _ => False) rfl rfl ?aO ?aR (fun _ _ h => h) (fun _ h => h.elim) ?aF ?aB ?aS ?aL ?_; (case aR => repeat (first | exact (Kd.R_reads' HO_11.out).2.2 | (with_reducible refine Kd.C_alloc ?_ _) | (with_reducible refine Kd.C_drewN ?_ _) | (with_reducible refine Kd.C_drew ?_))); (case aB => exact (by repeat (first | (with_reducible first | exact HB.out | apply below_alloc | apply pw_below_drewN | apply below_drew1) | exact HB.out))); (case aF => exact (fun k_ hk => Kd.fresh' (Kd.R_lt (by (with_reducible repeat (first | apply Kd.R_alloc | apply Kd.R_drewN | apply Kd.R_drew)); exact HO_11.out)) k_ hk)); (case aO => exact (by (with_reducible repeat (first | apply Kd.R_alloc | apply Kd.R_drewN | apply Kd.R_drew)); exact Kd.R_mono HO412.out (fun _ hk => hk.2))); (case aS => exact (below_size (by repeat (first | (with_reducible first | exact HB.out | apply below_alloc | apply pw_below_drewN | apply below_drew1) | exact HB.out)))); (case aL => have := LMc28.out; omega); intro v414 w63 ho hb hg hat; rw [← Ny413.out] at ho; have n0_ := Aside0.mk (Kd.R_after (ok := (fun _ => True)) (by (with_reducible repeat (first | apply Kd.R_alloc | apply Kd.R_drewN | apply Kd.R_drew)); exact HO_11.out) hg hat); have n1_ := Aside0.mk (hb); have n2_ := Aside0.mk (ho); clear HO_11; clear HB; clear HO412; have HO_11 := n0_; have HB := n1_; have HO415 := n2_; clear n0_ n1_ n2_; clear ho hb hg hat) | ((with_reducible refine gate_builtin (b := .append) (xs := #[.tmp 85, .tmp 86]) rfl ?_); (try (refine gate_guard (by rfl) ?_; dsimp only)); at_builtin; refine Kd.R_append_rows (Kd.int .u8) (w0 := w) w.heap.size rfl (.tmp 85) (.tmp 86) 22 5 (.int .u8 0) 1 rfl Try.underlying22 info5 rfl (by decide) (by omega) v414 y413 l2 _ _ _ (fun k_ => some k_ ≠ (.slice Ao64 t406.length co64 : Value).ownBlock) (fun _ => False) rfl rfl ?aO ?aR (fun _ _ h => h) (fun _ h => h.elim) ?aF ?aB ?aS ?aL ?_; (case aR => repeat (first | exact (Kd.C_below HR2.out HB.out) | (with_reducible refine Kd.C_alloc ?_ _) | (with_reducible refine Kd.C_drewN ?_ _) | (with_reducible refine Kd.C_drew ?_))); (case aB => exact (by repeat (first | (with_reducible first | exact HB.out | apply below_alloc | apply pw_below_drewN | apply below_drew1) | exact HB.out))); (case aF => exact (fun k_ hk => Kd.fresh' (Kd.R_lt (by (with_reducible repeat (first | apply Kd.R_alloc | apply Kd.R_drewN | apply Kd.R_drew)); exact HO_11.out)) k_ hk)); (case aO => exact (by (with_reducible repeat (first | apply Kd.R_alloc | apply Kd.R_drewN | apply Kd.R_drew)); exact HO415.out)); (case aS => exact (below_size (by repeat (first | (with_reducible first | exact HB.out | apply below_alloc | apply pw_below_drewN | apply below_drew1) | exact HB.out)))); (case aL => have := LMc29.out; omega); intro v417 w65 ho hb hg hat; rw [← Ny416.out] at ho; have n0_ := Aside0.mk (Kd.R_after (ok := (fun _ => True)) (by (with_reducible repeat (first | apply Kd.R_alloc | apply Kd.R_drewN | apply Kd.R_drew)); exact HO_11.out) hg hat); have n1_ := Aside0.mk (hb); have n2_ := Aside0.mk (ho); clear HO_11; clear HB; clear HO415; have HO_11 := n0_; have HB := n1_; have HO418 := n2_; clear n0_ n1_ n2_; clear ho hb hg hat; obtain ⟨Ao66, co66, eo66⟩ := Kd.R_slice HO418.out; subst eo66) | ((with_reducible refine gate_callee (f := 22) rfl ?_); refine goesL_ (some 90) rfl rfl Try.func22 (by kernel_rfl) rfl #[.slice Ao66 y416.length co66, .int .i64 (l0.length : Int)] rfl (by (try simp only [List.map_toArray, List.map_cons, List.map_nil]); first | done | rfl | (simp only [List.length_drop, List.length_take]; rfl)) ?_; (with_reducible refine (wire_Number.calls _ _ y416 (l0.length : Int) t419 t420 t421 _ ?side1 ?side2 A30.out).mono ?_); (case side1 => repeat (first | exact (Kd.R_reads' HO418.out).2.2 | (with_reducible refine Kd.C_alloc ?_ _) | (with_reducible refine Kd.C_drewN ?_ _) | (with_reducible refine Kd.C_drew ?_))); (case side2 => exact (Kd.R_reads' HO418.out).2.1); rintro e w' ⟨rfl, ⟨nd, rfl⟩⟩; refine ⟨_, rfl, ?_⟩; have q67 : ((l0.length : Int) : Int) ≤ ((t406.length : Int) : Int) := of_decide_eq_true (by first | (with_reducible assumption) | assumption); obtain ⟨i067, hi067, _, hsz67, _⟩ := info_parts info5; have hroom67 : t406.length ≤ co64 := (Kd.R_reads' HO_11.out).2.1; have hC67 : Kd.C (Kd.int .u8) _ Ao64 t406.length t406 := (Kd.R_reads' HO_11.out).2.2; have hcut67 := cut_to (P := Try.prog) 22 5 .i64 Try.underlying22 hi067 Ao64 t406.length co64 (l0.length : Int) (of_decide_eq_true (by first | (with_reducible assumption) | assumption)) q67 hroom67; have hr67 := Kd.C_take (m := ((l0.length : Int) : Int).toNat) hC67 (by omega); have hy67 : y422.length = ((l0.length : Int) : Int).toNat := (by rw [Ny422.out, List.length_take]; omega); rw [← Ny422.out] at hr67; rw [← hy67] at hcut67; have HR425 := Aside0.mk hr67; have HC425 := Aside0.mk (show y422.length ≤ co64 from by omega); clear hr67 hC67 hroom67 hi067 hsz67; have KY67 := Aside0.mk hy67; clear hy67; have KL67 := Aside0.mk (show ((l0.length : Int) : Int).toNat ≤ t406.length from by omega); replace q67 := eq_true q67) | (go_at_call 21; (with_reducible refine (slotmeshref04_Same.calls kj16 _ _ y422 _ _ l0 t426 _ ?side1 ?side2 ?side3 ?side4 A37.out).mono ?_); (case side1 => repeat (first | exact (by repeat (first | (with_reducible exact HR425.out) | (with_reducible refine Kd.C_alloc ?_ _) | (with_reducible refine Kd.C_drewN ?_ _) | (with_reducible refine Kd.C_drew ?_) | exact HR425.out)) | (with_reducible refine Kd.C_alloc ?_ _) | (with_reducible refine Kd.C_drewN ?_ _) | (with_reducible refine Kd.C_drew ?_))); (case side2 => exact HC425.out); (case side3 => repeat (first | exact (Kd.C_below HR0.out (by repeat (first | (with_reducible first | exact HB.out | apply below_alloc | apply pw_below_drewN | apply below_drew1) | exact HB.out))) | (with_reducible refine Kd.C_alloc ?_ _) | (with_reducible refine Kd.C_drewN ?_ _) | (with_reducible refine Kd.C_drew ?_))); (case side4 => exact HC0.out); rintro e w' ⟨rfl, ⟨nd, rfl⟩⟩) | ((with_reducible refine gate_callee (f := 22) rfl ?_); refine goesL_ (some 121) rfl rfl Try.func22 (by kernel_rfl) rfl #[.slice A0 l0.length c0, .int .i64 a3] rfl (by (try simp only [List.map_toArray, List.map_cons, List.map_nil]); first | done | rfl | (simp only [List.length_drop, List.length_take]; rfl)) ?_; (with_reducible refine (wire_Number.calls _ _ l0 a3 t427 t428 t429 _ ?side1 ?side2 A38.out).mono ?_); (case side1 => repeat (first | exact (Kd.C_below HR0.out (by repeat (first | (with_reducible first | exact HB.out | apply below_alloc | apply pw_below_drewN | apply below_drew1) | exact HB.out))) | (with_reducible refine Kd.C_alloc ?_ _) | (with_reducible refine Kd.C_drewN ?_ _) | (with_reducible refine Kd.C_drew ?_))); (case side2 => exact HC0.out); rintro e w' ⟨rfl, ⟨nd, rfl⟩⟩; refine ⟨_, rfl, ?_⟩))
                                    go_ret
                                    exact ⟨by first | rfl | (simp [errW_none, errW_some] <;> rfl) | (simp [*, errW_none, errW_some] <;> rfl), by repeat (first | (with_reducible first | exact HB.out | apply below_alloc | apply pw_below_drewN | apply below_drew1) | exact HB.out)⟩
                                · rw [if_neg c36] at H
                                  exact absurd H (by simp)
                              · rw [if_neg c35] at H
                                exact absurd H (by simp)
                            · rw [if_neg c34] at H
                              exact absurd H (by simp)
                          · rw [if_neg c33] at H
                            exact absurd H (by simp)
                        · rw [if_neg c32] at H
                          exact absurd H (by simp)
                      · replace c31 := Bool.eq_false_iff.mpr c31
                        subst c31
                        have H1 : (none) = some r := by rw [if_neg (show ¬ (false = true) by decide)] at H; exact H
                        clear H
                        have H := H1
                        clear H1
                        exact absurd H (by simp)
                    · rw [if_neg c29] at H
                      exact absurd H (by simp)
                  · rw [if_neg c28] at H
                    exact absurd H (by simp)
                · rw [if_neg c27] at H
                  exact absurd H (by simp)
  · replace c7 := Bool.eq_false_iff.mpr c7
    subst c7
    have H1 : (some t404) = some r := by rw [if_neg (show ¬ (false = true) by decide)] at H; exact H
    clear H
    have H := H1
    clear H1
    obtain rfl := Option.some.inj H
    go_enter Try.func4, Try.ntmps4
    go_wp2_with (first | ((with_reducible refine gate_callee (f := 17) rfl ?_); refine goesL_ (some 21) rfl rfl Try.func17 (by kernel_rfl) rfl #[] rfl (by (try simp only [List.map_toArray, List.map_cons, List.map_nil]); first | done | rfl | (simp only [List.length_drop, List.length_take]; rfl)) ?_; (with_reducible refine (slotmeshlaw04_head.calls k  t404 _ A5.out).mono ?_); rintro e w68 ⟨rfl, hb⟩; refine ⟨_, rfl, ?_⟩; have n0_ := Aside0.mk (below_step (by repeat (first | (with_reducible first | exact HB.out | apply below_alloc | apply pw_below_drewN | apply below_drew1) | exact HB.out)) hb); clear HB; have HB := n0_; clear n0_; (try clear hb); (try clear hb2); (try clear hk); (try clear hi)) | ((with_reducible refine gate_callee (f := 18) rfl ?_); refine goesL_ (some 24) rfl rfl Try.func18 (by kernel_rfl) rfl #[.slice A0 l0.length c0, .slice A2 l2.length c2] rfl (by (try simp only [List.map_toArray, List.map_cons, List.map_nil]); first | done | rfl | (simp only [List.length_drop, List.length_take]; rfl)) ?_; (with_reducible refine (slotmeshlaw04_few.calls _ _ l0 _ _ l2 false _ ?side1 ?side2 ?side3 ?side4 A6.out).mono ?_); (case side1 => repeat (first | exact (Kd.C_below HR0.out HB.out) | (with_reducible refine Kd.C_alloc ?_ _) | (with_reducible refine Kd.C_drewN ?_ _) | (with_reducible refine Kd.C_drew ?_))); (case side2 => exact HC0.out); (case side3 => repeat (first | exact (Kd.C_below HR2.out HB.out) | (with_reducible refine Kd.C_alloc ?_ _) | (with_reducible refine Kd.C_drewN ?_ _) | (with_reducible refine Kd.C_drew ?_))); (case side4 => exact HC2.out); rintro e w' ⟨rfl, ⟨nd, rfl⟩⟩; refine ⟨_, rfl, ?_⟩))
    go_ret
    exact ⟨by first | rfl | (simp [errW_none, errW_some] <;> rfl) | (simp [*, errW_none, errW_some] <;> rfl), by repeat (first | (with_reducible first | exact HB.out | apply below_alloc | apply pw_below_drewN | apply below_drew1) | exact HB.out)⟩

/-- THE ONE PURE STATEMENT of slotmeshlaw04_WireNumbers: yours. -/
def slotmeshlaw04_WireNumbers.Pure : Prop := ∀ (l0 : List Int) (a1 : Int) (l2 : List Int) (a3 : Int), l0.length ≤ maxLen → l0.length * 1 ≤ 140737488351232 → (∀ x ∈ l0, (Lit.int .u8 x).wf = true) → (Lit.int .i64 a1).wf = true → l2.length ≤ maxLen → l2.length * 1 ≤ 140737488351232 → (∀ x ∈ l2, (Lit.int .u8 x).wf = true) → (Lit.int .i64 a3).wf = true → ∃ k, slotmeshlaw04_WireNumbers.f k l0 a1 l2 a3 = some true
theorem slotmeshlaw04_WireNumbers.walk (P : slotmeshlaw04_WireNumbers.Pure) (a0 : Option Addr) (len0 cap0 : Nat) (z0 : List Int) (a1 : Int) (a2 : Option Addr) (len2 cap2 : Nat) (z2 : List Int) (a3 : Int) (w : World) (w0 : (a0 = none ∧ len0 = 0 ∧ cap0 = 0 ∧ z0 = []) ∨ ∃ x, a0 = some x ∧ len0 ≤ cap0 ∧ cap0 ≤ maxLen ∧ z0.length = cap0 ∧ (∀ i, i < z0.length → w.cell? (x.add i) = some (.int .u8 (z0.getD i 0))) ∧ ∀ n ∈ z0, (Lit.int .u8 n).wf = true) (y0 : len0 * 1 ≤ 140737488351232) (w1 : (Lit.int .i64 a1).wf = true) (w2 : (a2 = none ∧ len2 = 0 ∧ cap2 = 0 ∧ z2 = []) ∨ ∃ x, a2 = some x ∧ len2 ≤ cap2 ∧ cap2 ≤ maxLen ∧ z2.length = cap2 ∧ (∀ i, i < z2.length → w.cell? (x.add i) = some (.int .u8 (z2.getD i 0))) ∧ ∀ n ∈ z2, (Lit.int .u8 n).wf = true) (y2 : len2 * 1 ≤ 140737488351232) (w3 : (Lit.int .i64 a3).wf = true) :
    Calls Try.prog 4 #[.slice a0 len0 cap0, .int .i64 a1, .slice a2 len2 cap2, .int .i64 a3] w fun e w' => e = .returned (.bool true) ∧ Below w.heap.size w w' := by
  obtain ⟨l0, rfl, hr0, hm0, hw0, hc0⟩ := ReadsInt.ofRowC w0
  obtain ⟨l2, rfl, hr2, hm2, hw2, hc2⟩ := ReadsInt.ofRowC w2
  obtain ⟨k, h⟩ := P l0 a1 l2 a3 hm0 y0 hw0 w1 hm2 y2 hw2 w3
  refine (slotmeshlaw04_WireNumbers.calls k _ _ l0 a1 _ _ l2 a3 true w (Kd.C_of_reads (d := (0 : Int)) (h1 := fun _ => rfl) hr0) hc0 (Kd.C_of_reads (d := (0 : Int)) (h1 := fun _ => rfl) hr2) hc2 h).mono ?_
  rintro e w' ⟨rfl, hd⟩
  exact ⟨rfl, hd⟩

end Go.Proofs.Ytanipbjbaalomaa.PWire
