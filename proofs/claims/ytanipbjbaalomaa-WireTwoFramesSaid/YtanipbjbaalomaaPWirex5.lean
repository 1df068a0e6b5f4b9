-- A text of this claim, written by this session's program.
import Derived.Test.YtanipbjbaalomaaPWirex0
import Derived.Test.YtanipbjbaalomaaPWirex4
namespace Go.Proofs.Ytanipbjbaalomaa.PWire
open Go.RowKit Go.Proofs.YtanipbjbaalomaaW.PrintWords Go.Proofs.YtanipbjbaalomaaW.PrintLast Go.Proofs.YtanipbjbaalomaaW.PrintMore
attribute [local go_sem] max2_int min2_int max_two min_two max_three min_three max_four min_four   -- for this text's walks alone
set_option linter.unusedVariables false
set_option linter.unusedSimpArgs false

/-! ### slotmeshref04_Number: function 23 -/
mutual
def slotmeshref04_Number.j0 : Nat → List Int → Int → Bool → Option (Int × Int × Int)
  | 0, _, _, _ => none
  | k + 1, x0, x1, x19 => if x19 = true then (some (0, 0, 1)) else ((slotmeshref04_length.f k x0 x1).bind fun t270 => (if t270 = 0 then (some (0, 0, 3)) else (if t270 < 0 then (some (0, 0, 11)) else (slotmeshref04_Number.l0 k x0 x1 t270 0 (wrap64 (t270 - 1))))))
def slotmeshref04_Number.l0 : Nat → List Int → Int → Int → Int → Int → Option (Int × Int × Int)
  | 0, _, _, _, _, _ => none
  | k + 1, x0, x1, x7, x8, x9 => if x9 ≥ 0 then (if 0 ≤ (wrap64 (x1 + x9)) then (if (wrap64 (x1 + x9)) < (x0.length : Int) then (slotmeshref04_Number.l0 k x0 x1 x7 (wrap64 ((wrap64 (128 * x8)) + (Int.tmod (wrap64 (rd x0 (wrap64 (x1 + x9)))) 128))) (wrap64 (x9 - 1))) else (none)) else (none)) else (if (Int.tmod x8 2) = 1 then ((slotmeshref04_Written.f (wrap64 ((wrap64 (-(wrap64 (Int.tdiv x8 2)))) - 1))).bind fun t272 => (if t272 = true then (if x7 > 1 then (if 0 ≤ (wrap64 ((wrap64 (x1 + x7)) - 1)) then (if (wrap64 ((wrap64 (x1 + x7)) - 1)) < (x0.length : Int) then (if (rd x0 (wrap64 ((wrap64 (x1 + x7)) - 1))) = 0 then (some (0, 0, 3)) else (some (wrap64 ((wrap64 (-(wrap64 (Int.tdiv x8 2)))) - 1), wrap64 (x1 + x7), 0))) else (none)) else (none)) else (some (wrap64 ((wrap64 (-(wrap64 (Int.tdiv x8 2)))) - 1), wrap64 (x1 + x7), 0))) else (some (0, 0, 3)))) else ((slotmeshref04_Written.f (wrap64 (Int.tdiv x8 2))).bind fun t274 => (if t274 = true then (if x7 > 1 then (if 0 ≤ (wrap64 ((wrap64 (x1 + x7)) - 1)) then (if (wrap64 ((wrap64 (x1 + x7)) - 1)) < (x0.length : Int) then (if (rd x0 (wrap64 ((wrap64 (x1 + x7)) - 1))) = 0 then (some (0, 0, 3)) else (some (wrap64 (Int.tdiv x8 2), wrap64 (x1 + x7), 0))) else (none)) else (none)) else (some (wrap64 (Int.tdiv x8 2), wrap64 (x1 + x7), 0))) else (some (0, 0, 3)))))
end
def slotmeshref04_Number.f (k : Nat) (l0 : List Int) (a1 : Int) : Option (Int × Int × Int) := if a1 < 0 then (slotmeshref04_Number.j0 k l0 a1 true) else (slotmeshref04_Number.j0 k l0 a1 (decide (a1 > (l0.length : Int))))
theorem slotmeshref04_Number.mono_l : ∀ k, (∀ y0 y1 y2, LeO (slotmeshref04_Number.j0 k y0 y1 y2) (slotmeshref04_Number.j0 (k + 1) y0 y1 y2)) ∧ (∀ y0 y1 y2 y3 y4, LeO (slotmeshref04_Number.l0 k y0 y1 y2 y3 y4) (slotmeshref04_Number.l0 (k + 1) y0 y1 y2 y3 y4))
  | 0 => ⟨fun _ _ _ r h => by simp [slotmeshref04_Number.j0] at h, fun _ _ _ _ _ r h => by simp [slotmeshref04_Number.l0] at h⟩
  | k + 1 => by
    obtain ⟨ih0, ih1⟩ := slotmeshref04_Number.mono_l k
    refine ⟨?_, ?_⟩
    · intro y0 y1 y2
      unfold slotmeshref04_Number.j0
      repeat' first
      | (with_reducible exact ih0 _ _ _)
      | (with_reducible exact ih1 _ _ _ _ _)
      | (with_reducible exact slotmeshref04_length.mono _ _ _)
      | (with_reducible exact LeO.refl _)
      | (with_reducible exact LeO.none _)
      | (with_reducible refine LeO.ite ?_ ?_)
      | (with_reducible refine LeO.bind ?_ (fun _ => ?_))
      | exact ih0 _ _ _
      | exact ih1 _ _ _ _ _
      | exact slotmeshref04_length.mono _ _ _
      | exact LeO.none _
      | refine LeO.ite ?_ ?_
      | refine LeO.bind ?_ (fun _ => ?_)
    · intro y0 y1 y2 y3 y4
      unfold slotmeshref04_Number.l0
      repeat' first
      | (with_reducible exact ih0 _ _ _)
      | (with_reducible exact ih1 _ _ _ _ _)
      | (with_reducible exact slotmeshref04_length.mono _ _ _)
      | (with_reducible exact LeO.refl _)
      | (with_reducible exact LeO.none _)
      | (with_reducible refine LeO.ite ?_ ?_)
      | (with_reducible refine LeO.bind ?_ (fun _ => ?_))
      | exact ih0 _ _ _
      | exact ih1 _ _ _ _ _
      | exact slotmeshref04_length.mono _ _ _
      | exact LeO.none _
      | refine LeO.ite ?_ ?_
      | refine LeO.bind ?_ (fun _ => ?_)
theorem slotmeshref04_Number.mono : ∀ a0 a1 k, LeO (slotmeshref04_Number.f k a0 a1) (slotmeshref04_Number.f (k + 1) a0 a1) := by
  intro a0 a1 k
  obtain ⟨ih0, ih1⟩ := slotmeshref04_Number.mono_l k
  unfold slotmeshref04_Number.f
  repeat' first
      | (with_reducible exact ih0 _ _ _)
      | (with_reducible exact ih1 _ _ _ _ _)
      | (with_reducible exact slotmeshref04_length.mono _ _ _)
      | (with_reducible exact LeO.refl _)
      | (with_reducible exact LeO.none _)
      | (with_reducible refine LeO.ite ?_ ?_)
      | (with_reducible refine LeO.bind ?_ (fun _ => ?_))
      | exact ih0 _ _ _
      | exact ih1 _ _ _ _ _
      | exact slotmeshref04_length.mono _ _ _
      | exact LeO.none _
      | refine LeO.ite ?_ ?_
      | refine LeO.bind ?_ (fun _ => ?_)
set_option maxHeartbeats 8000000 in
set_option maxRecDepth 100000 in
theorem slotmeshref04_Number.calls (k : Nat) (A0 : Option Addr) (c0 : Nat) (l0 : List Int) (a1 : Int) (r1 : Int) (r2 : Int) (r3 : Int) (w : World) (hr0 : Kd.C (Kd.int .u8) w A0 l0.length l0) (hc0 : l0.length ≤ c0) (h : slotmeshref04_Number.f k l0 a1 = some (r1, r2, r3)) :
    Calls Try.prog 23 #[.slice A0 l0.length c0, .int .i64 a1] w fun e w' => e = .returned (.tuple #[.int .i64 r1, .int .i64 r2, .int .i64 r3]) ∧ Drawn0 w w' := by
  have HR0 := Aside0.mk hr0
  have HC0 := Aside0.mk hc0
  clear hr0 hc0
  have H : (if a1 < 0 then (slotmeshref04_Number.j0 k l0 a1 true) else (slotmeshref04_Number.j0 k l0 a1 (decide (a1 > (l0.length : Int))))) = some (r1, r2, r3) := h
  clear h
  have HC3 := Aside0.mk H
  clear H
  go_enter Try.func23, Try.ntmps23
  go_upto_region 1 with (fail)
  go_cut [19] (fun v19 wc => ∃ (kq : Nat) (x19_2 : Bool), v19 = .bool x19_2 ∧ Aside0 (slotmeshref04_Number.j0 kq l0 a1 x19_2 = some (r1, r2, r3)) ∧ Aside0 (kq ≤ k) ∧ Drawn0 w wc)
  case first =>
    have H := HC3.out
    clear HC3
    by_cases c4 : a1 < 0
    · rw [if_pos c4] at H
      have c4b0 : decide (a1 < 0) = true := decide_eq_true c4
      clear c4
      (first | rw [c4b0] | (simp only [i64_w, i32_w]; rw [c4b0]) | skip)
      have H' := Aside0.mk H
      clear H
      go_wp2
      go_meet
      case rel => exact ⟨_, (true), (by first | rfl | (simp; done) | (simp [*]; done)), H', ⟨by first | omega | exact Nat.le_refl _⟩, by repeat (first | exact Drawn0.refl _ | apply Drawn0.step)⟩
    · rw [if_neg c4] at H
      have c4b0 : decide (a1 < 0) = false := decide_eq_false c4
      clear c4
      (first | rw [c4b0] | (simp only [i64_w, i32_w]; rw [c4b0]) | skip)
      have H' := Aside0.mk H
      clear H
      go_wp2
      go_meet
      case rel => exact ⟨_, (decide (a1 > (l0.length : Int))), (by first | rfl | (simp; done) | (simp [*]; done)), H', ⟨by first | omega | exact Nat.le_refl _⟩, by repeat (first | exact Drawn0.refl _ | apply Drawn0.step)⟩
  case rest =>
    clear HC3
    try clear c2
    try clear p2
    try clear c4
    try clear c4b0
    obtain ⟨kq, x19_2, rfl, HA, HJ2, ⟨mc2, rfl⟩⟩ := hcut
    cases kq with
    | zero => exact absurd HA.out (by simp [slotmeshref04_Number.j0])
    | succ kj2 =>
      have H := HA.out
      clear HA
      simp only [slotmeshref04_Number.j0] at H
      by_cases c5 : x19_2 = true
      · subst c5
        have H1 : (some (0, 0, 1)) = some (r1, r2, r3) := by rw [if_pos rfl] at H; exact H
        clear H
        have H := H1
        clear H1
        simp only [Option.some.injEq, Prod.mk.injEq] at H
        obtain ⟨rfl, rfl, rfl⟩ := H
        go_wp2
        go_ret3
        exact ⟨by first | rfl | (simp; done) | (simp [*]; done), by repeat (first | exact Drawn0.refl _ | apply Drawn0.step)⟩
      · replace c5 := Bool.eq_false_iff.mpr c5
        subst c5
        have H1 : ((slotmeshref04_length.f kj2 l0 a1).bind fun t270 => (if t270 = 0 then (some (0, 0, 3)) else (if t270 < 0 then (some (0, 0, 11)) else (slotmeshref04_Number.l0 kj2 l0 a1 t270 0 (wrap64 (t270 - 1)))))) = some (r1, r2, r3) := by rw [if_neg (show ¬ (false = true) by decide)] at H; exact H
        clear H
        have H := H1
        clear H1
        replace H := Option.bind_eq_some_iff.mp H
        obtain ⟨t270, A60, H⟩ := H
        replace H : (if t270 = 0 then (some (0, 0, 3)) else (if t270 < 0 then (some (0, 0, 11)) else (slotmeshref04_Number.l0 kj2 l0 a1 t270 0 (wrap64 (t270 - 1))))) = some (r1, r2, r3) := H
        have A6 := Aside0.mk A60
        clear A60
        by_cases c7 : t270 = 0
        · rw [if_pos c7] at H
          have c7b0 : (t270 == 0) = true := beq_iff_eq.mpr c7
          have c7b1 : (t270 != 0) = false := bne_eq_false_iff_eq.mpr c7
          clear c7
          simp only [Option.some.injEq, Prod.mk.injEq] at H
          obtain ⟨rfl, rfl, rfl⟩ := H
          go_wp2_with (first | ((with_reducible refine gate_callee (f := 61) rfl ?_); refine goesL_ (some 22) rfl rfl Try.func61 (by kernel_rfl) rfl #[.slice A0 l0.length c0, .int .i64 a1] rfl (by (try simp only [List.map_toArray, List.map_cons, List.map_nil]); first | done | rfl | (simp only [List.length_drop, List.length_take]; rfl)) ?_; (with_reducible refine (slotmeshref04_length.calls kj2 _ _ l0 a1 t270 _ ?side1 ?side2 A6.out).mono ?_); (case side1 => repeat (first | exact HR0.out | (with_reducible refine Kd.C_alloc ?_ _) | (with_reducible refine Kd.C_drewN ?_ _) | (with_reducible refine Kd.C_drew ?_))); (case side2 => exact HC0.out); rintro e w' ⟨rfl, ⟨nd, rfl⟩⟩; refine ⟨_, rfl, ?_⟩))
          go_ret3
          exact ⟨by first | rfl | (simp; done) | (simp [*]; done), by repeat (first | exact Drawn0.refl _ | apply Drawn0.step)⟩
        · rw [if_neg c7] at H
          have c7b0 : (t270 == 0) = false := beq_eq_false_iff_ne.mpr c7
          have c7b1 : (t270 != 0) = true := bne_iff_ne.mpr c7
          by_cases c8 : t270 < 0
          · rw [if_pos c8] at H
            have c8b0 : decide (t270 < 0) = true := decide_eq_true c8
            clear c8
            simp only [Option.some.injEq, Prod.mk.injEq] at H
            obtain ⟨rfl, rfl, rfl⟩ := H
            go_wp2_with (first | ((with_reducible refine gate_callee (f := 61) rfl ?_); refine goesL_ (some 22) rfl rfl Try.func61 (by kernel_rfl) rfl #[.slice A0 l0.length c0, .int .i64 a1] rfl (by (try simp only [List.map_toArray, List.map_cons, List.map_nil]); first | done | rfl | (simp only [List.length_drop, List.length_take]; rfl)) ?_; (with_reducible refine (slotmeshref04_length.calls kj2 _ _ l0 a1 t270 _ ?side1 ?side2 A6.out).mono ?_); (case side1 => repeat (first | exact HR0.out | (with_reducible refine Kd.C_alloc ?_ _) | (with_reducible refine Kd.C_drewN ?_ _) | (with_reducible refine Kd.C_drew ?_))); (case side2 => exact HC0.out); rintro e w' ⟨rfl, ⟨nd, rfl⟩⟩; refine ⟨_, rfl, ?_⟩))
            go_ret3
            exact ⟨by first | rfl | (simp; done) | (simp [*]; done), by repeat (first | exact Drawn0.refl _ | apply Drawn0.step)⟩
          · rw [if_neg c8] at H
            have c8b0 : decide (t270 < 0) = false := decide_eq_false c8
            clear c8
            have H' := Aside0.mk H
            clear H
            go_wp2_with (first | ((with_reducible refine gate_callee (f := 61) rfl ?_); refine goesL_ (some 22) rfl rfl Try.func61 (by kernel_rfl) rfl #[.slice A0 l0.length c0, .int .i64 a1] rfl (by (try simp only [List.map_toArray, List.map_cons, List.map_nil]); first | done | rfl | (simp only [List.length_drop, List.length_take]; rfl)) ?_; (with_reducible refine (slotmeshref04_length.calls kj2 _ _ l0 a1 t270 _ ?side1 ?side2 A6.out).mono ?_); (case side1 => repeat (first | exact HR0.out | (with_reducible refine Kd.C_alloc ?_ _) | (with_reducible refine Kd.C_drewN ?_ _) | (with_reducible refine Kd.C_drew ?_))); (case side2 => exact HC0.out); rintro e w' ⟨rfl, ⟨nd, rfl⟩⟩; refine ⟨_, rfl, ?_⟩))
            go_loopg [8, 9] kj2 (fun kq v8 v9 w' => ∃ (x8_2 : Int) (x9_2 : Int), v8 = .int .i64 x8_2 ∧ v9 = .int .i64 x9_2 ∧ Aside0 (slotmeshref04_Number.l0 kq l0 a1 t270 x8_2 x9_2 = some (r1, r2, r3)) ∧ Aside0 (kq ≤ kj2) ∧ Drawn0 w w')
            case atStart => exact ⟨(0), (wrap64 (t270 - 1)), (by first | rfl | (simp; done) | (simp [*]; done)), (by first | rfl | (simp; done) | (simp [*]; done)), H', ⟨Nat.le_refl _⟩, by repeat (first | exact Drawn0.refl _ | apply Drawn0.step)⟩
            case round =>
              clear H'
              try clear c2
              try clear p2
              try clear c4
              try clear c4b0
              try clear c5
              try clear c6
              try clear p6
              try clear c7
              try clear c7b0
              try clear c7b1
              try clear c8
              try clear c8b0
              try clear p2
              obtain ⟨x8_2, x9_2, rfl, rfl, HA, HK2, ⟨m2, rfl⟩⟩ := hrel
              cases gk with
              | zero => exact absurd HA.out (by simp [slotmeshref04_Number.l0])
              | succ k2 =>
                have H := HA.out
                clear HA
                simp only [slotmeshref04_Number.l0] at H
                by_cases c9 : x9_2 ≥ 0
                · rw [if_pos c9] at H
                  have c9b0 : decide (0 ≤ x9_2) = true := decide_eq_true c9
                  clear c9
                  obtain ⟨ji10, hji10⟩ : ∃ j_ : Int, (wrap64 (a1 + x9_2)) = j_ := ⟨_, rfl⟩
                  replace H : (if 0 ≤ (ji10) then (if (ji10) < (l0.length : Int) then (slotmeshref04_Number.l0 k2 l0 a1 t270 (wrap64 ((wrap64 (128 * x8_2)) + (Int.tmod (wrap64 (rd l0 (ji10))) 128))) (wrap64 (x9_2 - 1))) else (none)) else (none)) = some (r1, r2, r3) := by first | (rw [hji10] at H; exact H) | (simp only [hji10] at H ⊢; exact H)
                  have hji10w : (IntKind.i64.wrap (a1 + x9_2)) = ji10 := (i64_w _).trans hji10
                  by_cases c11 : 0 ≤ (ji10)
                  · rw [if_pos c11] at H
                    have c11b0 : decide (0 ≤ (ji10)) = true := decide_eq_true c11
                    clear c11
                    by_cases c12 : (ji10) < (l0.length : Int)
                    · rw [if_pos c12] at H
                      have c12b0 : decide ((ji10) < (l0.length : Int)) = true := decide_eq_true c12
                      clear c12
                      have H' := Aside0.mk H
                      clear H
                      have p271 : 0 ≤ ((ji10) : Int) := of_decide_eq_true (by first | (with_reducible assumption) | assumption)
                      have q271 : (ji10) < (l0.length : Int) := of_decide_eq_true (by first | (with_reducible assumption) | assumption)
                      obtain ⟨ad271, e271, hx271_0⟩ := Kd.at_int HR0.out (ji10) p271 q271
                      cases e271
                      replace p271 := eq_true p271
                      replace q271 := eq_true q271
                      go_wp2
                      go_roundg k2
                      case measure => have := HJ2.out; have := HK2.out; omega
                      case rel => exact ⟨(wrap64 ((wrap64 (128 * x8_2)) + (Int.tmod (wrap64 (rd l0 (ji10))) 128))), (wrap64 (x9_2 - 1)), (by first | rfl | (simp; done) | (simp only [← hji10] <;> (first | rfl | simp)) | (simp [*]; done)), (by first | rfl | (simp; done) | (simp [*]; done)), H', ⟨by have := HJ2.out; have := HK2.out; omega⟩, by repeat (first | exact Drawn0.refl _ | apply Drawn0.step)⟩
                    · rw [if_neg c12] at H
                      exact absurd H (by simp)
                  · rw [if_neg c11] at H
                    exact absurd H (by simp)
                · rw [if_neg c9] at H
                  have c9b0 : decide (0 ≤ x9_2) = false := decide_eq_false c9
                  clear c9
                  by_cases c13 : (Int.tmod x8_2 2) = 1
                  · rw [if_pos c13] at H
                    have c13b0 : ((Int.tmod x8_2 2) == 1) = true := beq_iff_eq.mpr c13
                    have c13b1 : ((Int.tmod x8_2 2) != 1) = false := bne_eq_false_iff_eq.mpr c13
                    clear c13
                    replace H := Option.bind_eq_some_iff.mp H
                    obtain ⟨t272, A140, H⟩ := H
                    replace H : (if t272 = true then (if t270 > 1 then (if 0 ≤ (wrap64 ((wrap64 (a1 + t270)) - 1)) then (if (wrap64 ((wrap64 (a1 + t270)) - 1)) < (l0.length : Int) then (if (rd l0 (wrap64 ((wrap64 (a1 + t270)) - 1))) = 0 then (some (0, 0, 3)) else (some (wrap64 ((wrap64 (-(wrap64 (Int.tdiv x8_2 2)))) - 1), wrap64 (a1 + t270), 0))) else (none)) else (none)) else (some (wrap64 ((wrap64 (-(wrap64 (Int.tdiv x8_2 2)))) - 1), wrap64 (a1 + t270), 0))) else (some (0, 0, 3))) = some (r1, r2, r3) := H
                    have A14 := Aside0.mk A140
                    clear A140
                    by_cases c15 : t272 = true
                    · subst c15
                      have H1 : (if t270 > 1 then (if 0 ≤ (wrap64 ((wrap64 (a1 + t270)) - 1)) then (if (wrap64 ((wrap64 (a1 + t270)) - 1)) < (l0.length : Int) then (if (rd l0 (wrap64 ((wrap64 (a1 + t270)) - 1))) = 0 then (some (0, 0, 3)) else (some (wrap64 ((wrap64 (-(wrap64 (Int.tdiv x8_2 2)))) - 1), wrap64 (a1 + t270), 0))) else (none)) else (none)) else (some (wrap64 ((wrap64 (-(wrap64 (Int.tdiv x8_2 2)))) - 1), wrap64 (a1 + t270), 0))) = some (r1, r2, r3) := by rw [if_pos rfl] at H; exact H
                      clear H
                      have H := H1
                      clear H1
                      by_cases c16 : t270 > 1
                      · rw [if_pos c16] at H
                        have c16b0 : decide (1 < t270) = true := decide_eq_true c16
                        clear c16
                        obtain ⟨ji17, hji17⟩ : ∃ j_ : Int, (wrap64 ((wrap64 (a1 + t270)) - 1)) = j_ := ⟨_, rfl⟩
                        replace H : (if 0 ≤ (ji17) then (if (ji17) < (l0.length : Int) then (if (rd l0 (ji17)) = 0 then (some (0, 0, 3)) else (some (wrap64 ((wrap64 (-(wrap64 (Int.tdiv x8_2 2)))) - 1), wrap64 (a1 + t270), 0))) else (none)) else (none)) = some (r1, r2, r3) := by first | (rw [hji17] at H; exact H) | (simp only [hji17] at H ⊢; exact H)
                        (try rw [hji17] at A14)
                        have hji17w : (IntKind.i64.wrap ((wrap64 (a1 + t270)) - 1)) = ji17 := (i64_w _).trans hji17
                        by_cases c18 : 0 ≤ (ji17)
                        · rw [if_pos c18] at H
                          have c18b0 : decide (0 ≤ (ji17)) = true := decide_eq_true c18
                          clear c18
                          by_cases c19 : (ji17) < (l0.length : Int)
                          · rw [if_pos c19] at H
                            have c19b0 : decide ((ji17) < (l0.length : Int)) = true := decide_eq_true c19
                            clear c19
                            by_cases c20 : (rd l0 (ji17)) = 0
                            · rw [if_pos c20] at H
                              have c20b0 : ((rd l0 (ji17)) == 0) = true := beq_iff_eq.mpr c20
                              have c20b1 : ((rd l0 (ji17)) != 0) = false := bne_eq_false_iff_eq.mpr c20
                              clear c20
                              simp only [Option.some.injEq, Prod.mk.injEq] at H
                              obtain ⟨rfl, rfl, rfl⟩ := H
                              go_wp2_with (first | ((with_reducible refine gate_callee (f := 57) rfl ?_); refine goesL_ (some 53) rfl rfl Try.func57 (by kernel_rfl) rfl #[.int .i64 (wrap64 ((wrap64 (-(wrap64 (Int.tdiv x8_2 2)))) - 1))] rfl (by (try simp only [List.map_toArray, List.map_cons, List.map_nil]); first | done | rfl | (simp only [List.length_drop, List.length_take]; rfl)) ?_; (with_reducible refine (slotmeshref04_Written.calls (wrap64 ((wrap64 (-(wrap64 (Int.tdiv x8_2 2)))) - 1)) true _ A14.out).mono ?_); rintro e w' ⟨rfl, ⟨nd, rfl⟩⟩; refine ⟨_, rfl, ?_⟩; have p273 : 0 ≤ ((ji17) : Int) := of_decide_eq_true (by first | (with_reducible assumption) | assumption); have q273 : (ji17) < (l0.length : Int) := of_decide_eq_true (by first | (with_reducible assumption) | assumption); obtain ⟨ad273, e273, hx273_0⟩ := Kd.at_int HR0.out (ji17) p273 q273; cases e273; replace p273 := eq_true p273; replace q273 := eq_true q273))
                              go_ret3
                              exact ⟨by first | rfl | (simp; done) | (simp only [← hji17] <;> (first | rfl | simp)) | (simp [*]; done), by repeat (first | exact Drawn0.refl _ | apply Drawn0.step)⟩
                            · rw [if_neg c20] at H
                              have c20b0 : ((rd l0 (ji17)) == 0) = false := beq_eq_false_iff_ne.mpr c20
                              have c20b1 : ((rd l0 (ji17)) != 0) = true := bne_iff_ne.mpr c20
                              simp only [Option.some.injEq, Prod.mk.injEq] at H
                              obtain ⟨rfl, rfl, rfl⟩ := H
                              go_wp2_with (first | ((with_reducible refine gate_callee (f := 57) rfl ?_); refine goesL_ (some 53) rfl rfl Try.func57 (by kernel_rfl) rfl #[.int .i64 (wrap64 ((wrap64 (-(wrap64 (Int.tdiv x8_2 2)))) - 1))] rfl (by (try simp only [List.map_toArray, List.map_cons, List.map_nil]); first | done | rfl | (simp only [List.length_drop, List.length_take]; rfl)) ?_; (with_reducible refine (slotmeshref04_Written.calls (wrap64 ((wrap64 (-(wrap64 (Int.tdiv x8_2 2)))) - 1)) true _ A14.out).mono ?_); rintro e w' ⟨rfl, ⟨nd, rfl⟩⟩; refine ⟨_, rfl, ?_⟩; have p273 : 0 ≤ ((ji17) : Int) := of_decide_eq_true (by first | (with_reducible assumption) | assumption); have q273 : (ji17) < (l0.length : Int) := of_decide_eq_true (by first | (with_reducible assumption) | assumption); obtain ⟨ad273, e273, hx273_0⟩ := Kd.at_int HR0.out (ji17) p273 q273; cases e273; replace p273 := eq_true p273; replace q273 := eq_true q273))
                              go_ret3
                              exact ⟨by first | rfl | (simp; done) | (simp only [← hji17] <;> (first | rfl | simp)) | (simp [*]; done), by repeat (first | exact Drawn0.refl _ | apply Drawn0.step)⟩
                          · rw [if_neg c19] at H
                            exact absurd H (by simp)
                        · rw [if_neg c18] at H
                          exact absurd H (by simp)
                      · rw [if_neg c16] at H
                        have c16b0 : decide (1 < t270) = false := decide_eq_false c16
                        clear c16
                        simp only [Option.some.injEq, Prod.mk.injEq] at H
                        obtain ⟨rfl, rfl, rfl⟩ := H
                        go_wp2_with (first | ((with_reducible refine gate_callee (f := 57) rfl ?_); refine goesL_ (some 53) rfl rfl Try.func57 (by kernel_rfl) rfl #[.int .i64 (wrap64 ((wrap64 (-(wrap64 (Int.tdiv x8_2 2)))) - 1))] rfl (by (try simp only [List.map_toArray, List.map_cons, List.map_nil]); first | done | rfl | (simp only [List.length_drop, List.length_take]; rfl)) ?_; (with_reducible refine (slotmeshref04_Written.calls (wrap64 ((wrap64 (-(wrap64 (Int.tdiv x8_2 2)))) - 1)) true _ A14.out).mono ?_); rintro e w' ⟨rfl, ⟨nd, rfl⟩⟩; refine ⟨_, rfl, ?_⟩))
                        go_ret3
                        exact ⟨by first | rfl | (simp; done) | (simp [*]; done), by repeat (first | exact Drawn0.refl _ | apply Drawn0.step)⟩
                    · replace c15 := Bool.eq_false_iff.mpr c15
                      subst c15
                      have H1 : (some (0, 0, 3)) = some (r1, r2, r3) := by rw [if_neg (show ¬ (false = true) by decide)] at H; exact H
                      clear H
                      have H := H1
                      clear H1
                      simp only [Option.some.injEq, Prod.mk.injEq] at H
                      obtain ⟨rfl, rfl, rfl⟩ := H
                      go_wp2_with (first | ((with_reducible refine gate_callee (f := 57) rfl ?_); refine goesL_ (some 53) rfl rfl Try.func57 (by kernel_rfl) rfl #[.int .i64 (wrap64 ((wrap64 (-(wrap64 (Int.tdiv x8_2 2)))) - 1))] rfl (by (try simp only [List.map_toArray, List.map_cons, List.map_nil]); first | done | rfl | (simp only [List.length_drop, List.length_take]; rfl)) ?_; (with_reducible refine (slotmeshref04_Written.calls (wrap64 ((wrap64 (-(wrap64 (Int.tdiv x8_2 2)))) - 1)) false _ A14.out).mono ?_); rintro e w' ⟨rfl, ⟨nd, rfl⟩⟩; refine ⟨_, rfl, ?_⟩))
                      go_ret3
                      exact ⟨by first | rfl | (simp; done) | (simp [*]; done), by repeat (first | exact Drawn0.refl _ | apply Drawn0.step)⟩
                  · rw [if_neg c13] at H
                    have c13b0 : ((Int.tmod x8_2 2) == 1) = false := beq_eq_false_iff_ne.mpr c13
                    have c13b1 : ((Int.tmod x8_2 2) != 1) = true := bne_iff_ne.mpr c13
                    replace H := Option.bind_eq_some_iff.mp H
                    obtain ⟨t274, A210, H⟩ := H
                    replace H : (if t274 = true then (if t270 > 1 then (if 0 ≤ (wrap64 ((wrap64 (a1 + t270)) - 1)) then (if (wrap64 ((wrap64 (a1 + t270)) - 1)) < (l0.length : Int) then (if (rd l0 (wrap64 ((wrap64 (a1 + t270)) - 1))) = 0 then (some (0, 0, 3)) else (some (wrap64 (Int.tdiv x8_2 2), wrap64 (a1 + t270), 0))) else (none)) else (none)) else (some (wrap64 (Int.tdiv x8_2 2), wrap64 (a1 + t270), 0))) else (some (0, 0, 3))) = some (r1, r2, r3) := H
                    have A21 := Aside0.mk A210
                    clear A210
                    by_cases c22 : t274 = true
                    · subst c22
                      have H1 : (if t270 > 1 then (if 0 ≤ (wrap64 ((wrap64 (a1 + t270)) - 1)) then (if (wrap64 ((wrap64 (a1 + t270)) - 1)) < (l0.length : Int) then (if (rd l0 (wrap64 ((wrap64 (a1 + t270)) - 1))) = 0 then (some (0, 0, 3)) else (some (wrap64 (Int.tdiv x8_2 2), wrap64 (a1 + t270), 0))) else (none)) else (none)) else (some (wrap64 (Int.tdiv x8_2 2), wrap64 (a1 + t270), 0))) = some (r1, r2, r3) := by rw [if_pos rfl] at H; exact H
                      clear H
                      have H := H1
                      clear H1
                      by_cases c23 : t270 > 1
                      · rw [if_pos c23] at H
                        have c23b0 : decide (1 < t270) = true := decide_eq_true c23
                        clear c23
                        obtain ⟨ji24, hji24⟩ : ∃ j_ : Int, (wrap64 ((wrap64 (a1 + t270)) - 1)) = j_ := ⟨_, rfl⟩
                        replace H : (if 0 ≤ (ji24) then (if (ji24) < (l0.length : Int) then (if (rd l0 (ji24)) = 0 then (some (0, 0, 3)) else (some (wrap64 (Int.tdiv x8_2 2), wrap64 (a1 + t270), 0))) else (none)) else (none)) = some (r1, r2, r3) := by first | (rw [hji24] at H; exact H) | (simp only [hji24] at H ⊢; exact H)
                        (try rw [hji24] at A21)
                        have hji24w : (IntKind.i64.wrap ((wrap64 (a1 + t270)) - 1)) = ji24 := (i64_w _).trans hji24
                        by_cases c25 : 0 ≤ (ji24)
                        · rw [if_pos c25] at H
                          have c25b0 : decide (0 ≤ (ji24)) = true := decide_eq_true c25
                          clear c25
                          by_cases c26 : (ji24) < (l0.length : Int)
                          · rw [if_pos c26] at H
                            have c26b0 : decide ((ji24) < (l0.length : Int)) = true := decide_eq_true c26
                            clear c26
                            by_cases c27 : (rd l0 (ji24)) = 0
                            · rw [if_pos c27] at H
                              have c27b0 : ((rd l0 (ji24)) == 0) = true := beq_iff_eq.mpr c27
                              have c27b1 : ((rd l0 (ji24)) != 0) = false := bne_eq_false_iff_eq.mpr c27
                              clear c27
                              simp only [Option.some.injEq, Prod.mk.injEq] at H
                              obtain ⟨rfl, rfl, rfl⟩ := H
                              go_wp2_with (first | ((with_reducible refine gate_callee (f := 57) rfl ?_); refine goesL_ (some 53) rfl rfl Try.func57 (by kernel_rfl) rfl #[.int .i64 (wrap64 (Int.tdiv x8_2 2))] rfl (by (try simp only [List.map_toArray, List.map_cons, List.map_nil]); first | done | rfl | (simp only [List.length_drop, List.length_take]; rfl)) ?_; (with_reducible refine (slotmeshref04_Written.calls (wrap64 (Int.tdiv x8_2 2)) true _ A21.out).mono ?_); rintro e w' ⟨rfl, ⟨nd, rfl⟩⟩; refine ⟨_, rfl, ?_⟩; have p275 : 0 ≤ ((ji24) : Int) := of_decide_eq_true (by first | (with_reducible assumption) | assumption); have q275 : (ji24) < (l0.length : Int) := of_decide_eq_true (by first | (with_reducible assumption) | assumption); obtain ⟨ad275, e275, hx275_0⟩ := Kd.at_int HR0.out (ji24) p275 q275; cases e275; replace p275 := eq_true p275; replace q275 := eq_true q275))
                              go_ret3
                              exact ⟨by first | rfl | (simp; done) | (simp only [← hji24] <;> (first | rfl | simp)) | (simp [*]; done), by repeat (first | exact Drawn0.refl _ | apply Drawn0.step)⟩
                            · rw [if_neg c27] at H
                              have c27b0 : ((rd l0 (ji24)) == 0) = false := beq_eq_false_iff_ne.mpr c27
                              have c27b1 : ((rd l0 (ji24)) != 0) = true := bne_iff_ne.mpr c27
                              simp only [Option.some.injEq, Prod.mk.injEq] at H
                              obtain ⟨rfl, rfl, rfl⟩ := H
                              go_wp2_with (first | ((with_reducible refine gate_callee (f := 57) rfl ?_); refine goesL_ (some 53) rfl rfl Try.func57 (by kernel_rfl) rfl #[.int .i64 (wrap64 (Int.tdiv x8_2 2))] rfl (by (try simp only [List.map_toArray, List.map_cons, List.map_nil]); first | done | rfl | (simp only [List.length_drop, List.length_take]; rfl)) ?_; (with_reducible refine (slotmeshref04_Written.calls (wrap64 (Int.tdiv x8_2 2)) true _ A21.out).mono ?_); rintro e w' ⟨rfl, ⟨nd, rfl⟩⟩; refine ⟨_, rfl, ?_⟩; have p275 : 0 ≤ ((ji24) : Int) := of_decide_eq_true (by first | (with_reducible assumption) | assumption); have q275 : (ji24) < (l0.length : Int) := of_decide_eq_true (by first | (with_reducible assumption) | assumption); obtain ⟨ad275, e275, hx275_0⟩ := Kd.at_int HR0.out (ji24) p275 q275; cases e275; replace p275 := eq_true p275; replace q275 := eq_true q275))
                              go_ret3
                              exact ⟨by first | rfl | (simp; done) | (simp only [← hji24] <;> (first | rfl | simp)) | (simp [*]; done), by repeat (first | exact Drawn0.refl _ | apply Drawn0.step)⟩
                          · rw [if_neg c26] at H
                            exact absurd H (by simp)
                        · rw [if_neg c25] at H
                          exact absurd H (by simp)
                      · rw [if_neg c23] at H
                        have c23b0 : decide (1 < t270) = false := decide_eq_false c23
                        clear c23
                        simp only [Option.some.injEq, Prod.mk.injEq] at H
                        obtain ⟨rfl, rfl, rfl⟩ := H
                        go_wp2_with (first | ((with_reducible refine gate_callee (f := 57) rfl ?_); refine goesL_ (some 53) rfl rfl Try.func57 (by kernel_rfl) rfl #[.int .i64 (wrap64 (Int.tdiv x8_2 2))] rfl (by (try simp only [List.map_toArray, List.map_cons, List.map_nil]); first | done | rfl | (simp only [List.length_drop, List.length_take]; rfl)) ?_; (with_reducible refine (slotmeshref04_Written.calls (wrap64 (Int.tdiv x8_2 2)) true _ A21.out).mono ?_); rintro e w' ⟨rfl, ⟨nd, rfl⟩⟩; refine ⟨_, rfl, ?_⟩))
                        go_ret3
                        exact ⟨by first | rfl | (simp; done) | (simp [*]; done), by repeat (first | exact Drawn0.refl _ | apply Drawn0.step)⟩
                    · replace c22 := Bool.eq_false_iff.mpr c22
                      subst c22
                      have H1 : (some (0, 0, 3)) = some (r1, r2, r3) := by rw [if_neg (show ¬ (false = true) by decide)] at H; exact H
                      clear H
                      have H := H1
                      clear H1
                      simp only [Option.some.injEq, Prod.mk.injEq] at H
                      obtain ⟨rfl, rfl, rfl⟩ := H
                      go_wp2_with (first | ((with_reducible refine gate_callee (f := 57) rfl ?_); refine goesL_ (some 53) rfl rfl Try.func57 (by kernel_rfl) rfl #[.int .i64 (wrap64 (Int.tdiv x8_2 2))] rfl (by (try simp only [List.map_toArray, List.map_cons, List.map_nil]); first | done | rfl | (simp only [List.length_drop, List.length_take]; rfl)) ?_; (with_reducible refine (slotmeshref04_Written.calls (wrap64 (Int.tdiv x8_2 2)) false _ A21.out).mono ?_); rintro e w' ⟨rfl, ⟨nd, rfl⟩⟩; refine ⟨_, rfl, ?_⟩))
                      go_ret3
                      exact ⟨by first | rfl | (simp; done) | (simp [*]; done), by repeat (first | exact Drawn0.refl _ | apply Drawn0.step)⟩

/-! ### slotmeshref04_PutBytes: function 25 -/
def slotmeshref04_PutBytes.f (k : Nat) (l0 : List Int) (l1 : List Int) : Option (List Int × Int) := if (l1.length : Int) > 4000 then (some (([] : List Int), 2)) else ((slotmeshref04_Text.f k (l1.length : Int)).bind fun t276 => ((slotmeshref04_joined.f l0 t276).bind fun t279 => ((slotmeshref04_joined.f t279 l1).bind fun t282 => (some (t282, 0)))))
theorem slotmeshref04_PutBytes.mono : ∀ a0 a1 k, LeO (slotmeshref04_PutBytes.f k a0 a1) (slotmeshref04_PutBytes.f (k + 1) a0 a1) := by
  intro a0 a1 k
  unfold slotmeshref04_PutBytes.f
  repeat' first
      | (with_reducible exact slotmeshref04_Text.mono _ _)
      | (with_reducible exact LeO.refl _)
      | (with_reducible exact LeO.none _)
      | (with_reducible refine LeO.ite ?_ ?_)
      | (with_reducible refine LeO.bind ?_ (fun _ => ?_))
      | exact slotmeshref04_Text.mono _ _
      | exact LeO.none _
      | refine LeO.ite ?_ ?_
      | refine LeO.bind ?_ (fun _ => ?_)
set_option maxHeartbeats 8000000 in
set_option maxRecDepth 100000 in
theorem slotmeshref04_PutBytes.calls (k : Nat) (A0 : Option Addr) (c0 : Nat) (l0 : List Int) (A1 : Option Addr) (c1 : Nat) (l1 : List Int) (r1 : List Int) (r2 : Int) (w : World) (hr0 : Kd.C (Kd.int .u8) w A0 l0.length l0) (hc0 : l0.length ≤ c0) (hr1 : Kd.C (Kd.int .u8) w A1 l1.length l1) (hc1 : l1.length ≤ c1) (h : slotmeshref04_PutBytes.f k l0 l1 = some (r1, r2)) :
    Calls Try.prog 25 #[.slice A0 l0.length c0, .slice A1 l1.length c1] w fun e w' => ∃ v0_ : Value, e = .returned (.tuple #[v0_, .int .i64 r2]) ∧ Kd.R (Kd.int .u8) 5 w' w.heap.size (fun _ => True) v0_ r1 ∧ Below w.heap.size w w' := by
  have HR0 := Aside0.mk hr0
  have HC0 := Aside0.mk hc0
  clear hr0 hc0
  have HR1 := Aside0.mk hr1
  have HC1 := Aside0.mk hc1
  clear hr1 hc1
  have HB := Aside0.mk (Below.refl w.heap.size w)
  have H : (if (l1.length : Int) > 4000 then (some (([] : List Int), 2)) else ((slotmeshref04_Text.f k (l1.length : Int)).bind fun t276 => ((slotmeshref04_joined.f l0 t276).bind fun t279 => ((slotmeshref04_joined.f t279 l1).bind fun t282 => (some (t282, 0)))))) = some (r1, r2) := h
  clear h
  by_cases c3 : (l1.length : Int) > 4000
  · rw [if_pos c3] at H
    have c3b0 : decide (4000 < (l1.length : Int)) = true := decide_eq_true c3
    have c3b1 : decide (4000 < l1.length) = true := decide_eq_true (by omega)
    clear c3
    simp only [Option.some.injEq, Prod.mk.injEq] at H
    obtain ⟨rfl, rfl⟩ := H
    go_enter Try.func25, Try.ntmps25
    go_wp2
    go_ret2
    exact ⟨_, by first | rfl | (simp [errW_none, errW_some] <;> rfl) | (simp [*, errW_none, errW_some] <;> rfl), by first | exact Kd.R_nil _ _ _ _ _ | exact Kd.N_nil _ _ _ _ _ | exact Kd.V_nil _ _ _ _ _ | exact Kd.Q_nil _ _ _ _ _ | exact Kd.S_nil _ _ _ _ _, by repeat (first | (with_reducible first | exact HB.out | apply below_alloc | apply pw_below_drewN | apply below_drew1) | exact HB.out)⟩
  · rw [if_neg c3] at H
    have c3b0 : decide (4000 < (l1.length : Int)) = false := decide_eq_false c3
    have c3b1 : decide (4000 < l1.length) = false := decide_eq_false (by omega)
    clear c3
    replace H := Option.bind_eq_some_iff.mp H
    obtain ⟨t276, A40, H⟩ := H
    replace H : ((slotmeshref04_joined.f l0 t276).bind fun t279 => ((slotmeshref04_joined.f t279 l1).bind fun t282 => (some (t282, 0)))) = some (r1, r2) := H
    have A4 := Aside0.mk A40
    clear A40
    replace H := Option.bind_eq_some_iff.mp H
    obtain ⟨t279, A50, H⟩ := H
    replace H : ((slotmeshref04_joined.f t279 l1).bind fun t282 => (some (t282, 0))) = some (r1, r2) := H
    have A5 := Aside0.mk A50
    clear A50
    replace H := Option.bind_eq_some_iff.mp H
    obtain ⟨t282, A60, H⟩ := H
    replace H : (some (t282, 0)) = some (r1, r2) := H
    have A6 := Aside0.mk A60
    clear A60
    simp only [Option.some.injEq, Prod.mk.injEq] at H
    obtain ⟨rfl, rfl⟩ := H
    go_enter Try.func25, Try.ntmps25
    go_wp2_with (first | ((with_reducible refine gate_callee (f := 59) rfl ?_); refine goesL_ (some 12) rfl rfl Try.func59 (by kernel_rfl) rfl #[.int .i64 (l1.length : Int)] rfl (by (try simp only [List.map_toArray, List.map_cons, List.map_nil]); first | done | rfl | (simp only [List.length_drop, List.length_take]; rfl)) ?_; (with_reducible refine (slotmeshref04_Text.calls k (l1.length : Int) t276 _ A4.out).mono ?_); rintro e w7 ⟨v277, rfl, ho0, hb⟩; refine ⟨_, rfl, ?_⟩; have n0_ := Aside0.mk (Kd.R_lower ho0 (below_size (by repeat (first | (with_reducible first | exact HB.out | apply below_alloc | apply pw_below_drewN | apply below_drew1) | exact HB.out)))); have n1_ := Aside0.mk (below_step (by repeat (first | (with_reducible first | exact HB.out | apply below_alloc | apply pw_below_drewN | apply below_drew1) | exact HB.out)) hb); clear HB; have HO278 := n0_; have HB := n1_; clear n0_ n1_; (try clear hb); (try clear hb2); (try clear hk); (try clear hi); (try clear ho0); obtain ⟨Ao8, co8, eo8⟩ := Kd.R_slice HO278.out; subst eo8) | ((with_reducible refine gate_callee (f := 58) rfl ?_); refine goesL_ (some 13) rfl rfl Try.func58 (by kernel_rfl) rfl #[.slice A0 l0.length c0, .slice Ao8 t276.length co8] rfl (by (try simp only [List.map_toArray, List.map_cons, List.map_nil]); first | done | rfl | (simp only [List.length_drop, List.length_take]; rfl)) ?_; (with_reducible refine (slotmeshref04_joined.calls _ _ l0 _ _ t276 t279 _ ?side1 ?side2 ?side3 ?side4 A5.out).mono ?_); (case side1 => repeat (first | exact (Kd.C_below HR0.out HB.out) | (with_reducible refine Kd.C_alloc ?_ _) | (with_reducible refine Kd.C_drewN ?_ _) | (with_reducible refine Kd.C_drew ?_))); (case side2 => exact HC0.out); (case side3 => repeat (first | exact (Kd.R_reads' HO278.out).2.2 | (with_reducible refine Kd.C_alloc ?_ _) | (with_reducible refine Kd.C_drewN ?_ _) | (with_reducible refine Kd.C_drew ?_))); (case side4 => exact (Kd.R_reads' HO278.out).2.1); rintro e w9 ⟨v280, rfl, ho0, hb⟩; refine ⟨_, rfl, ?_⟩; have n0_ := Aside0.mk (Kd.R_elder' (by (with_reducible repeat (first | apply Kd.R_alloc | apply Kd.R_drewN | apply Kd.R_drew)); exact HO278.out) (Kd.R_base ho0) hb); have n1_ := Aside0.mk (Kd.R_lower (Kd.R_new' ho0 (Kd.R_lt (by (with_reducible repeat (first | apply Kd.R_alloc | apply Kd.R_drewN | apply Kd.R_drew)); exact HO278.out))) (below_size (by repeat (first | (with_reducible first | exact HB.out | apply below_alloc | apply pw_below_drewN | apply below_drew1) | exact HB.out)))); have n2_ := Aside0.mk (below_step (by repeat (first | (with_reducible first | exact HB.out | apply below_alloc | apply pw_below_drewN | apply below_drew1) | exact HB.out)) hb); clear HO278; clear HB; have HO278 := n0_; have HO281 := n1_; have HB := n2_; clear n0_ n1_ n2_; (try clear hb); (try clear hb2); (try clear hk); (try clear hi); (try clear ho0); obtain ⟨Ao10, co10, eo10⟩ := Kd.R_slice HO281.out; subst eo10) | ((with_reducible refine gate_callee (f := 58) rfl ?_); refine goesL_ (some 15) rfl rfl Try.func58 (by kernel_rfl) rfl #[.slice Ao10 t279.length co10, .slice A1 l1.length c1] rfl (by (try simp only [List.map_toArray, List.map_cons, List.map_nil]); first | done | rfl | (simp only [List.length_drop, List.length_take]; rfl)) ?_; (with_reducible refine (slotmeshref04_joined.calls _ _ t279 _ _ l1 t282 _ ?side1 ?side2 ?side3 ?side4 A6.out).mono ?_); (case side1 => repeat (first | exact (Kd.R_reads' HO281.out).2.2 | (with_reducible refine Kd.C_alloc ?_ _) | (with_reducible refine Kd.C_drewN ?_ _) | (with_reducible refine Kd.C_drew ?_))); (case side2 => exact (Kd.R_reads' HO281.out).2.1); (case side3 => repeat (first | exact (Kd.C_below HR1.out HB.out) | (with_reducible refine Kd.C_alloc ?_ _) | (with_reducible refine Kd.C_drewN ?_ _) | (with_reducible refine Kd.C_drew ?_))); (case side4 => exact HC1.out); rintro e w11 ⟨v283, rfl, ho0, hb⟩; refine ⟨_, rfl, ?_⟩; have n0_ := Aside0.mk (Kd.R_elder' (by (with_reducible repeat (first | apply Kd.R_alloc | apply Kd.R_drewN | apply Kd.R_drew)); exact HO278.out) (Kd.R_base ho0) hb); have n1_ := Aside0.mk (Kd.R_elder' (by (with_reducible repeat (first | apply Kd.R_alloc | apply Kd.R_drewN | apply Kd.R_drew)); exact HO281.out) (Kd.R_base ho0) hb); have n2_ := Aside0.mk (Kd.R_lower (Kd.R_new' (Kd.R_new' ho0 (Kd.R_lt (by (with_reducible repeat (first | apply Kd.R_alloc | apply Kd.R_drewN | apply Kd.R_drew)); exact HO278.out))) (Kd.R_lt (by (with_reducible repeat (first | apply Kd.R_alloc | apply Kd.R_drewN | apply Kd.R_drew)); exact HO281.out))) (below_size (by repeat (first | (with_reducible first | exact HB.out | apply below_alloc | apply pw_below_drewN | apply below_drew1) | exact HB.out)))); have n3_ := Aside0.mk (below_step (by repeat (first | (with_reducible first | exact HB.out | apply below_alloc | apply pw_below_drewN | apply below_drew1) | exact HB.out)) hb); clear HO278; clear HO281; clear HB; have HO278 := n0_; have HO281 := n1_; have HO284 := n2_; have HB := n3_; clear n0_ n1_ n2_ n3_; (try clear hb); (try clear hb2); (try clear hk); (try clear hi); (try clear ho0)))
    go_ret2
    exact ⟨_, by first | rfl | (simp [errW_none, errW_some] <;> rfl) | (simp [*, errW_none, errW_some] <;> rfl), by (with_reducible repeat (first | apply Kd.R_alloc | apply Kd.R_drewN | apply Kd.R_drew)); exact Kd.R_mono HO284.out (fun _ hk => trivial), by repeat (first | (with_reducible first | exact HB.out | apply below_alloc | apply pw_below_drewN | apply below_drew1) | exact HB.out)⟩

/-! ### slotmeshref04_Bytes: function 27 -/
def slotmeshref04_Bytes.j0 : Nat → List Int → Int → Int → Bool → Option (List Int × Int × Int)
  | 0, _, _, _, _ => none
  | k + 1, x0, x7, x8, x25 => if x25 = true then (some (([] : List Int), 0, 3)) else (if (wrap64 (x8 + x7)) > (x0.length : Int) then (some (([] : List Int), 0, 11)) else (if 0 ≤ x8 then (if x8 ≤ (wrap64 (x8 + x7)) then (if (wrap64 (x8 + x7)) ≤ (x0.length : Int) then ((slotmeshref04_joined.f ([] : List Int) ((x0.take ((wrap64 (x8 + x7)) : Int).toNat).drop (x8 : Int).toNat)).bind fun t289 => (some (t289, wrap64 (x8 + x7), 0))) else (none)) else (none)) else (none)))
def slotmeshref04_Bytes.f (k : Nat) (l0 : List Int) (a1 : Int) : Option (List Int × Int × Int) := (slotmeshref04_Number.f k l0 a1).bind fun bt285 => (if bt285.2.2 = 0 then (if bt285.1 < 0 then (slotmeshref04_Bytes.j0 k l0 bt285.1 bt285.2.1 true) else (slotmeshref04_Bytes.j0 k l0 bt285.1 bt285.2.1 (decide (bt285.1 > 4000)))) else (some (([] : List Int), 0, bt285.2.2)))
theorem slotmeshref04_Bytes.mono_l : ∀ k, (∀ y0 y1 y2 y3, LeO (slotmeshref04_Bytes.j0 k y0 y1 y2 y3) (slotmeshref04_Bytes.j0 (k + 1) y0 y1 y2 y3))
  | 0 => fun _ _ _ _ r h => by simp [slotmeshref04_Bytes.j0] at h
  | k + 1 => by
    have ih0 := slotmeshref04_Bytes.mono_l k
    · intro y0 y1 y2 y3
      unfold slotmeshref04_Bytes.j0
      repeat' first
      | (with_reducible exact ih0 _ _ _ _)
      | (with_reducible exact slotmeshref04_Number.mono _ _ _)
      | (with_reducible exact LeO.refl _)
      | (with_reducible exact LeO.none _)
      | (with_reducible refine LeO.ite ?_ ?_)
      | (with_reducible refine LeO.bind ?_ (fun _ => ?_))
      | exact ih0 _ _ _ _
      | exact slotmeshref04_Number.mono _ _ _
      | exact LeO.none _
      | refine LeO.ite ?_ ?_
      | refine LeO.bind ?_ (fun _ => ?_)
theorem slotmeshref04_Bytes.mono : ∀ a0 a1 k, LeO (slotmeshref04_Bytes.f k a0 a1) (slotmeshref04_Bytes.f (k + 1) a0 a1) := by
  intro a0 a1 k
  have ih0 := slotmeshref04_Bytes.mono_l k
  unfold slotmeshref04_Bytes.f
  repeat' first
      | (with_reducible exact ih0 _ _ _ _)
      | (with_reducible exact slotmeshref04_Number.mono _ _ _)
      | (with_reducible exact LeO.refl _)
      | (with_reducible exact LeO.none _)
      | (with_reducible refine LeO.ite ?_ ?_)
      | (with_reducible refine LeO.bind ?_ (fun _ => ?_))
      | exact ih0 _ _ _ _
      | exact slotmeshref04_Number.mono _ _ _
      | exact LeO.none _
      | refine LeO.ite ?_ ?_
      | refine LeO.bind ?_ (fun _ => ?_)
set_option maxHeartbeats 8000000 in
set_option maxRecDepth 100000 in
theorem slotmeshref04_Bytes.calls (k : Nat) (A0 : Option Addr) (c0 : Nat) (l0 : List Int) (a1 : Int) (r1 : List Int) (r2 : Int) (r3 : Int) (w : World) (hr0 : Kd.C (Kd.int .u8) w A0 l0.length l0) (hc0 : l0.length ≤ c0) (h : slotmeshref04_Bytes.f k l0 a1 = some (r1, r2, r3)) :
    Calls Try.prog 27 #[.slice A0 l0.length c0, .int .i64 a1] w fun e w' => ∃ v0_ : Value, e = .returned (.tuple #[v0_, .int .i64 r2, .int .i64 r3]) ∧ Kd.R (Kd.int .u8) 5 w' w.heap.size (fun _ => True) v0_ r1 ∧ Below w.heap.size w w' := by
  have HR0 := Aside0.mk hr0
  have HC0 := Aside0.mk hc0
  clear hr0 hc0
  have HB := Aside0.mk (Below.refl w.heap.size w)
  have H : ((slotmeshref04_Number.f k l0 a1).bind fun bt285 => (if bt285.2.2 = 0 then (if bt285.1 < 0 then (slotmeshref04_Bytes.j0 k l0 bt285.1 bt285.2.1 true) else (slotmeshref04_Bytes.j0 k l0 bt285.1 bt285.2.1 (decide (bt285.1 > 4000)))) else (some (([] : List Int), 0, bt285.2.2)))) = some (r1, r2, r3) := h
  clear h
  replace H := Option.bind_eq_some_iff.mp H
  obtain ⟨⟨t285, t286, t287⟩, A30, H⟩ := H
  replace H : (if t287 = 0 then (if t285 < 0 then (slotmeshref04_Bytes.j0 k l0 t285 t286 true) else (slotmeshref04_Bytes.j0 k l0 t285 t286 (decide (t285 > 4000)))) else (some (([] : List Int), 0, t287))) = some (r1, r2, r3) := H
  have A3 := Aside0.mk A30
  clear A30
  by_cases c4 : t287 = 0
  · rw [if_pos c4] at H
    have c4b0 : (t287 == 0) = true := beq_iff_eq.mpr c4
    have c4b1 : (t287 != 0) = false := bne_eq_false_iff_eq.mpr c4
    clear c4
    have HC5 := Aside0.mk H
    clear H
    go_enter Try.func27, Try.ntmps27
    go_upto_region 4 with (first | ((with_reducible refine gate_callee (f := 23) rfl ?_); refine goesL_ (some 13) rfl rfl Try.func23 (by kernel_rfl) rfl #[.slice A0 l0.length c0, .int .i64 a1] rfl (by (try simp only [List.map_toArray, List.map_cons, List.map_nil]); first | done | rfl | (simp only [List.length_drop, List.length_take]; rfl)) ?_; (with_reducible refine (slotmeshref04_Number.calls k _ _ l0 a1 t285 t286 t287 _ ?side1 ?side2 A3.out).mono ?_); (case side1 => repeat (first | exact HR0.out | (with_reducible refine Kd.C_alloc ?_ _) | (with_reducible refine Kd.C_drewN ?_ _) | (with_reducible refine Kd.C_drew ?_))); (case side2 => exact HC0.out); rintro e w' ⟨rfl, ⟨nd, rfl⟩⟩; refine ⟨_, rfl, ?_⟩))
    (try simp only [Act.put, List.setIfInBounds_toArray, List.set_cons_zero, List.set_cons_succ])
    go_cut [25] (fun v25 wc => ∃ (kq : Nat) (x25_4 : Bool), v25 = .bool x25_4 ∧ Aside0 (slotmeshref04_Bytes.j0 kq l0 t285 t286 x25_4 = some (r1, r2, r3)) ∧ Aside0 (kq ≤ k) ∧ Aside0 (Below w.heap.size w wc))
    case first =>
      have H := HC5.out
      clear HC5
      by_cases c6 : t285 < 0
      · rw [if_pos c6] at H
        have c6b0 : decide (t285 < 0) = true := decide_eq_true c6
        clear c6
        (first | rw [c6b0] | (simp only [i64_w, i32_w]; rw [c6b0]) | skip)
        have H' := Aside0.mk H
        clear H
        go_wp2
        go_meet
        case rel => exact ⟨_, (true), (by first | rfl | (simp; done) | (simp [*]; done)), H', ⟨by first | omega | exact Nat.le_refl _⟩, ⟨by repeat (first | (with_reducible first | exact HB.out | apply below_alloc | apply pw_below_drewN | apply below_drew1) | exact HB.out)⟩⟩
      · rw [if_neg c6] at H
        have c6b0 : decide (t285 < 0) = false := decide_eq_false c6
        clear c6
        (first | rw [c6b0] | (simp only [i64_w, i32_w]; rw [c6b0]) | skip)
        have H' := Aside0.mk H
        clear H
        go_wp2
        go_meet
        case rel => exact ⟨_, (decide (t285 > 4000)), (by first | rfl | (simp; done) | (simp [*]; done)), H', ⟨by first | omega | exact Nat.le_refl _⟩, ⟨by repeat (first | (with_reducible first | exact HB.out | apply below_alloc | apply pw_below_drewN | apply below_drew1) | exact HB.out)⟩⟩
    case rest =>
      clear HC5
      try clear c2
      try clear p2
      try clear c4
      try clear c4b0
      try clear c4b1
      try clear c6
      try clear c6b0
      obtain ⟨kq, x25_4, rfl, HA, HJ4, HB⟩ := hcut
      cases kq with
      | zero => exact absurd HA.out (by simp [slotmeshref04_Bytes.j0])
      | succ kj4 =>
        have H := HA.out
        clear HA
        simp only [slotmeshref04_Bytes.j0] at H
        by_cases c7 : x25_4 = true
        · subst c7
          have H1 : (some (([] : List Int), 0, 3)) = some (r1, r2, r3) := by rw [if_pos rfl] at H; exact H
          clear H
          have H := H1
          clear H1
          simp only [Option.some.injEq, Prod.mk.injEq] at H
          obtain ⟨rfl, rfl, rfl⟩ := H
          go_wp2
          go_ret3
          exact ⟨_, by first | rfl | (simp [errW_none, errW_some] <;> rfl) | (simp [*, errW_none, errW_some] <;> rfl), by first | exact Kd.R_nil _ _ _ _ _ | exact Kd.N_nil _ _ _ _ _ | exact Kd.V_nil _ _ _ _ _ | exact Kd.Q_nil _ _ _ _ _ | exact Kd.S_nil _ _ _ _ _, by repeat (first | (with_reducible first | exact HB.out | apply below_alloc | apply pw_below_drewN | apply below_drew1) | exact HB.out)⟩
        · replace c7 := Bool.eq_false_iff.mpr c7
          subst c7
          have H1 : (if (wrap64 (t286 + t285)) > (l0.length : Int) then (some (([] : List Int), 0, 11)) else (if 0 ≤ t286 then (if t286 ≤ (wrap64 (t286 + t285)) then (if (wrap64 (t286 + t285)) ≤ (l0.length : Int) then ((slotmeshref04_joined.f ([] : List Int) ((l0.take ((wrap64 (t286 + t285)) : Int).toNat).drop (t286 : Int).toNat)).bind fun t289 => (some (t289, wrap64 (t286 + t285), 0))) else (none)) else (none)) else (none))) = some (r1, r2, r3) := by rw [if_neg (show ¬ (false = true) by decide)] at H; exact H
          clear H
          have H := H1
          clear H1
          by_cases c8 : (wrap64 (t286 + t285)) > (l0.length : Int)
          · rw [if_pos c8] at H
            have c8b0 : decide ((l0.length : Int) < (wrap64 (t286 + t285))) = true := decide_eq_true c8
            clear c8
            simp only [Option.some.injEq, Prod.mk.injEq] at H
            obtain ⟨rfl, rfl, rfl⟩ := H
            go_wp2
            go_ret3
            exact ⟨_, by first | rfl | (simp [errW_none, errW_some] <;> rfl) | (simp [*, errW_none, errW_some] <;> rfl), by first | exact Kd.R_nil _ _ _ _ _ | exact Kd.N_nil _ _ _ _ _ | exact Kd.V_nil _ _ _ _ _ | exact Kd.Q_nil _ _ _ _ _ | exact Kd.S_nil _ _ _ _ _, by repeat (first | (with_reducible first | exact HB.out | apply below_alloc | apply pw_below_drewN | apply below_drew1) | exact HB.out)⟩
          · rw [if_neg c8] at H
            have c8b0 : decide ((l0.length : Int) < (wrap64 (t286 + t285))) = false := decide_eq_false c8
            clear c8
            by_cases c9 : 0 ≤ t286
            · rw [if_pos c9] at H
              have c9b0 := eq_true c9
              have c9b1 : decide (0 ≤ t286) = true := decide_eq_true c9
              clear c9
              by_cases c10 : t286 ≤ (wrap64 (t286 + t285))
              · rw [if_pos c10] at H
                have c10b0 := eq_true c10
                have c10b1 : decide (t286 ≤ (wrap64 (t286 + t285))) = true := decide_eq_true c10
                by_cases c11 : (wrap64 (t286 + t285)) ≤ (l0.length : Int)
                · rw [if_pos c11] at H
                  have c11b0 := eq_true c11
                  have c11b1 : decide ((wrap64 (t286 + t285)) ≤ (l0.length : Int)) = true := decide_eq_true c11
                  replace H := Option.bind_eq_some_iff.mp H
                  obtain ⟨t289, A120, H⟩ := H
                  replace H : (some (t289, wrap64 (t286 + t285), 0)) = some (r1, r2, r3) := H
                  have A12 := Aside0.mk A120
                  clear A120
                  simp only [Option.some.injEq, Prod.mk.injEq] at H
                  obtain ⟨rfl, rfl, rfl⟩ := H
                  obtain ⟨i013, hi013, _, hsz13, _⟩ := info_parts info5
                  obtain ⟨A13, hcut13, hA13, hC13⟩ := print_mid_of (P := Try.prog) (Value.int .u8) 0 22 5 .i64 .i64 Try.underlying22 hi013 hsz13 A0 c0 l0 t286 (wrap64 (t286 + t285)) (of_decide_eq_true (by first | (with_reducible assumption) | assumption)) (by first | omega | exact of_decide_eq_true (by first | (with_reducible assumption) | assumption)) (of_decide_eq_true (by first | (with_reducible assumption) | assumption)) HC0.out
                  have HR288 := Aside0.mk (Kd.C_of_reads (h1 := fun _ => rfl) (hA13 _ (Kd.reads_of_C HR0.out)))
                  have HC288 := Aside0.mk hC13
                  clear hA13 hC13 hi013 hsz13
                  go_wp2_with (first | ((with_reducible refine gate_callee (f := 58) rfl ?_); refine goesL_ (some 38) rfl rfl Try.func58 (by kernel_rfl) rfl #[.slice none 0 0, .slice A13 ((l0.take ((wrap64 (t286 + t285)) : Int).toNat).drop (t286 : Int).toNat).length (c0 - t286.toNat)] rfl (by (try simp only [List.map_toArray, List.map_cons, List.map_nil]); first | done | (rw [show ((l0.take ((wrap64 (t286 + t285)) : Int).toNat).drop (t286 : Int).toNat).length = ((wrap64 (t286 + t285)).toNat - t286.toNat) from (by rw [List.length_drop, List.length_take]; have h_ : ((wrap64 (t286 + t285)) : Int) ≤ (l0.length : Int) := of_decide_eq_true (by first | (with_reducible assumption) | assumption); omega)] <;> rfl) | rfl | (simp only [List.length_drop, List.length_take]; rfl)) ?_; (refine (slotmeshref04_joined.calls _ _ ([] : List Int) _ _ ((l0.take ((wrap64 (t286 + t285)) : Int).toNat).drop (t286 : Int).toNat) t289 _ ?side1 ?side2 ?side3 ?side4 A12.out).mono ?_); (case side1 => exact Kd.C_nil _ _); (case side2 => exact Nat.le_refl _); (case side3 => repeat (first | exact (Kd.C_below HR288.out HB.out) | (with_reducible refine Kd.C_alloc ?_ _) | (with_reducible refine Kd.C_drewN ?_ _) | (with_reducible refine Kd.C_drew ?_))); (case side4 => exact HC288.out); rintro e w14 ⟨v290, rfl, ho0, hb⟩; refine ⟨_, rfl, ?_⟩; have n0_ := Aside0.mk (Kd.R_lower ho0 (below_size (by repeat (first | (with_reducible first | exact HB.out | apply below_alloc | apply pw_below_drewN | apply below_drew1) | exact HB.out)))); have n1_ := Aside0.mk (below_step (by repeat (first | (with_reducible first | exact HB.out | apply below_alloc | apply pw_below_drewN | apply below_drew1) | exact HB.out)) hb); clear HB; have HO291 := n0_; have HB := n1_; clear n0_ n1_; (try clear hb); (try clear hb2); (try clear hk); (try clear hi); (try clear ho0)))
                  go_ret3
                  exact ⟨_, by first | rfl | (simp [errW_none, errW_some] <;> rfl) | (simp [*, errW_none, errW_some] <;> rfl), by (with_reducible repeat (first | apply Kd.R_alloc | apply Kd.R_drewN | apply Kd.R_drew)); exact HO291.out, by repeat (first | (with_reducible first | exact HB.out | apply below_alloc | apply pw_below_drewN | apply below_drew1) | exact HB.out)⟩
                · rw [if_neg c11] at H
                  exact absurd H (by simp)
              · rw [if_neg c10] at H
                exact absurd H (by simp)
            · rw [if_neg c9] at H
              exact absurd H (by simp)
  · rw [if_neg c4] at H
    have c4b0 : (t287 == 0) = false := beq_eq_false_iff_ne.mpr c4
    have c4b1 : (t287 != 0) = true := bne_iff_ne.mpr c4
    simp only [Option.some.injEq, Prod.mk.injEq] at H
    obtain ⟨rfl, rfl, rfl⟩ := H
    go_enter Try.func27, Try.ntmps27
    go_wp2_with (first | ((with_reducible refine gate_callee (f := 23) rfl ?_); refine goesL_ (some 13) rfl rfl Try.func23 (by kernel_rfl) rfl #[.slice A0 l0.length c0, .int .i64 a1] rfl (by (try simp only [List.map_toArray, List.map_cons, List.map_nil]); first | done | rfl | (simp only [List.length_drop, List.length_take]; rfl)) ?_; (with_reducible refine (slotmeshref04_Number.calls k _ _ l0 a1 t285 t286 t287 _ ?side1 ?side2 A3.out).mono ?_); (case side1 => repeat (first | exact HR0.out | (with_reducible refine Kd.C_alloc ?_ _) | (with_reducible refine Kd.C_drewN ?_ _) | (with_reducible refine Kd.C_drew ?_))); (case side2 => exact HC0.out); rintro e w' ⟨rfl, ⟨nd, rfl⟩⟩; refine ⟨_, rfl, ?_⟩))
    go_ret3
    exact ⟨_, by first | rfl | (simp [errW_none, errW_some] <;> rfl) | (simp [*, errW_none, errW_some] <;> rfl), by first | exact Kd.R_nil _ _ _ _ _ | exact Kd.N_nil _ _ _ _ _ | exact Kd.V_nil _ _ _ _ _ | exact Kd.Q_nil _ _ _ _ _ | exact Kd.S_nil _ _ _ _ _, by repeat (first | (with_reducible first | exact HB.out | apply below_alloc | apply pw_below_drewN | apply below_drew1) | exact HB.out)⟩

/-! ### slotmeshref04_fields: function 66 -/
def slotmeshref04_fields.f (a0_0 : Int) (a0_1 : Int) (a0_2 : Int) (a0_3 : Int) (a0_4 : Int) (l0_5 : List Int) : Option (List Int) := some (([a0_0, a0_1, a0_2, a0_3, a0_4] : List Int))
set_option maxHeartbeats 8000000 in
set_option maxRecDepth 100000 in
theorem slotmeshref04_fields.calls (a0_0 : Int) (a0_1 : Int) (a0_2 : Int) (a0_3 : Int) (a0_4 : Int) (A0_5 : Option Addr) (c0_5 : Nat) (l0_5 : List Int) (r : List Int) (w : World) (hr0_5 : Kd.C (Kd.int .u8) w A0_5 l0_5.length l0_5) (hc0_5 : l0_5.length ≤ c0_5) (h : slotmeshref04_fields.f a0_0 a0_1 a0_2 a0_3 a0_4 l0_5 = some r) :
    Calls Try.prog 66 #[.agg #[.int .i64 a0_0, .int .i64 a0_1, .int .i64 a0_2, .int .i64 a0_3, .int .i64 a0_4, .slice A0_5 l0_5.length c0_5]] w fun e w' => ∃ v0_ : Value, e = .returned (v0_) ∧ Kd.R (Kd.int .i64) 3 w' w.heap.size (fun _ => True) v0_ r ∧ Below w.heap.size w w' := by
  have hu24 := Try.underlying24
  have HR0_5 := Aside0.mk hr0_5
  have HC0_5 := Aside0.mk hc0_5
  clear hr0_5 hc0_5
  have HB := Aside0.mk (Below.refl w.heap.size w)
  have H : (some (([a0_0, a0_1, a0_2, a0_3, a0_4] : List Int))) = some r := h
  clear h
  obtain ⟨y293, hy293⟩ : ∃ y_ : List Int, y_ = (([a0_0, a0_1, a0_2, a0_3, a0_4] : List Int)) := ⟨_, rfl⟩
  replace H : (some y293) = some r := by first | (rw [hy293]; with_reducible exact H) | (have H2_ := (Option.bind_some _ _).symm.trans H; rw [hy293]; with_reducible exact H2_) | (have H2_ := (Option.bind_some _ _).symm.trans H; with_reducible exact H2_) | with_reducible exact H | (rw [hy293]; exact H) | exact H
  have Ny293 := Aside0.mk hy293
  clear hy293
  obtain rfl := Option.some.inj H
  go_enter Try.func66, Try.ntmps66
  go_wp2_with (first | ((with_reducible refine gate_dst (N := 1) rfl ?_); refine box_event ?hg (N := 1) ?hd (cs := #[.int .i64 a0_0, .int .i64 a0_1, .int .i64 a0_2, .int .i64 a0_3, .int .i64 a0_4, .slice A0_5 l0_5.length c0_5]) (t := 24) ?hr ?_; (case hd => rfl); (case hg => rfl); (case hr => first | (go_simp; done) | (go_simp; rfl)); intro gb292 hg w2 hbox hb; have n0_ := Aside0.mk (below_step (by repeat (first | (with_reducible first | exact HB.out | apply below_alloc | apply pw_below_drewN | apply below_drew1) | exact HB.out)) hb); have n1_ := Aside0.mk (hbox); have n2_ := Aside0.mk ((by rw [hg]; exact (below_size (by repeat (first | (with_reducible first | exact HB.out | apply below_alloc | apply pw_below_drewN | apply below_drew1) | exact HB.out))) : w.heap.size ≤ gb292)); have n3_ := Aside0.mk ((by rw [hg]; exact (below_size (by repeat (first | (with_reducible first | exact HB.out | apply below_alloc | apply pw_below_drewN | apply below_drew1) | exact HB.out))) : w.heap.size ≤ gb292)); clear HB; have HB := n0_; have BK292 := n1_; have GW292 := n2_; have GE292 := n3_; clear n0_ n1_ n2_ n3_; clear hb hbox hg; have hcz3_0 : w2.cell? ⟨gb292, 0, none⟩ = some (.int .i64 a0_0) := (blk_cell BK292.out 0).trans rfl; have hcz3_1 : w2.cell? ⟨gb292, 1, none⟩ = some (.int .i64 a0_1) := (blk_cell BK292.out 1).trans rfl; have hcz3_2 : w2.cell? ⟨gb292, 2, none⟩ = some (.int .i64 a0_2) := (blk_cell BK292.out 2).trans rfl; have hcz3_3 : w2.cell? ⟨gb292, 3, none⟩ = some (.int .i64 a0_3) := (blk_cell BK292.out 3).trans rfl; have hcz3_4 : w2.cell? ⟨gb292, 4, none⟩ = some (.int .i64 a0_4) := (blk_cell BK292.out 4).trans rfl; have hcz3_5 : w2.cell? ⟨gb292, 5, none⟩ = some (.slice A0_5 l0_5.length c0_5) := (blk_cell BK292.out 5).trans rfl; have hfz3_0 := blk_frozen BK292.out 0; have hfz3_1 := blk_frozen BK292.out 1; have hfz3_2 := blk_frozen BK292.out 2; have hfz3_3 := blk_frozen BK292.out 3; have hfz3_4 := blk_frozen BK292.out 4; have hfz3_5 := blk_frozen BK292.out 5) | ((with_reducible refine gate_dst (N := 13) rfl ?_); refine Kd.R_lit (Kd.int .i64) _ 3 ?hg (N := 13) ?hd (xs := ([a0_0, a0_1, a0_2, a0_3, a0_4] : List Int)) (inner := [.int .i64 a0_0, .int .i64 a0_1, .int .i64 a0_2, .int .i64 a0_3, .int .i64 a0_4]) (ok := fun _ => True) (okp := fun _ => True) ?hr ?hp (fun _ hk => hk) trivial (Below.refl _ _) (Nat.le_refl _) (by simp) ?_; (case hd => rfl); (case hg => rfl); (case hr => first | (go_simp; done) | (go_simp; rfl)); (case hp => exact (Reps.one (show Kd.M (Kd.int .i64) _ _ _ a0_0 [.int .i64 a0_0] from rfl) (Reps.one (show Kd.M (Kd.int .i64) _ _ _ a0_1 [.int .i64 a0_1] from rfl) (Reps.one (show Kd.M (Kd.int .i64) _ _ _ a0_2 [.int .i64 a0_2] from rfl) (Reps.one (show Kd.M (Kd.int .i64) _ _ _ a0_3 [.int .i64 a0_3] from rfl) (Reps.one (show Kd.M (Kd.int .i64) _ _ _ a0_4 [.int .i64 a0_4] from rfl) (Reps.none _ _))))))); intro v294 w4 ho5 hb hg_ hnew_; clear hg_ hnew_; (first | rw [← Ny293.out] at ho5 | (simp only [Int.reduceToNat] at ho5; rw [← Ny293.out] at ho5)); have n0_ := Aside0.mk (Kd.R_lower ho5 (below_size (by repeat (first | (with_reducible first | exact HB.out | apply below_alloc | apply pw_below_drewN | apply below_drew1 | refine below_set ?_ GE292.out) | exact HB.out)))); have n1_ := Aside0.mk (blk_below (g := gb292) (o := .cells #[.int .i64 a0_0, .int .i64 a0_1, .int .i64 a0_2, .int .i64 a0_3, .int .i64 a0_4, .slice A0_5 l0_5.length c0_5] 24 (0, 0)) (by (with_reducible repeat (first | refine blk_drewN ?_ _ | refine blk_drew ?_ | refine blk_alloc ?_ _)); exact BK292.out) hb); have n2_ := Aside0.mk (below_step (by repeat (first | (with_reducible first | exact HB.out | apply below_alloc | apply pw_below_drewN | apply below_drew1 | refine below_set ?_ GE292.out) | exact HB.out)) hb); clear BK292; clear HB; have HO295 := n0_; have BK292 := n1_; have HB := n2_; clear n0_ n1_ n2_; clear hb ho5))
  go_ret
  exact ⟨_, by first | rfl | (simp [errW_none, errW_some] <;> rfl) | (simp [*, errW_none, errW_some] <;> rfl), by (with_reducible repeat (first | apply Kd.R_alloc | apply Kd.R_drewN | apply Kd.R_drew)); exact HO295.out, by repeat (first | (with_reducible first | exact HB.out | apply below_alloc | apply pw_below_drewN | apply below_drew1 | refine below_set ?_ GE292.out) | exact HB.out)⟩

/-! ### slotmeshref04_Field: function 68 -/
def slotmeshref04_Field.f (a0 : Int) (a1 : Int) : Option (Bool) := if a0 = 0 then (if a1 ≥ 1 then (some (decide (a1 ≤ 4))) else (some false)) else (if a0 = 1 then (if a1 ≥ 0 then (some (decide (a1 ≤ 59))) else (some false)) else (if a0 = 2 then (if a1 ≥ (-1) then (some (decide (a1 ≤ 59))) else (some false)) else (if a0 = 3 then (if a1 ≥ 0 then (some (decide (a1 ≤ 1000000000))) else (some false)) else (if a1 ≥ 0 then (some (decide (a1 ≤ 2000000))) else (some false)))))
set_option maxHeartbeats 8000000 in
set_option maxRecDepth 100000 in
theorem slotmeshref04_Field.calls (a0 : Int) (a1 : Int) (r : Bool) (w : World) (h : slotmeshref04_Field.f a0 a1 = some r) :
    Calls Try.prog 68 #[.int .i64 a0, .int .i64 a1] w fun e w' => e = .returned (.bool r) ∧ Drawn0 w w' := by
  have H : (if a0 = 0 then (if a1 ≥ 1 then (some (decide (a1 ≤ 4))) else (some false)) else (if a0 = 1 then (if a1 ≥ 0 then (some (decide (a1 ≤ 59))) else (some false)) else (if a0 = 2 then (if a1 ≥ (-1) then (some (decide (a1 ≤ 59))) else (some false)) else (if a0 = 3 then (if a1 ≥ 0 then (some (decide (a1 ≤ 1000000000))) else (some false)) else (if a1 ≥ 0 then (some (decide (a1 ≤ 2000000))) else (some false)))))) = some r := h
  clear h
  by_cases c3 : a0 = 0
  · rw [if_pos c3] at H
    have c3b0 : (a0 == 0) = true := beq_iff_eq.mpr c3
    have c3b1 : (a0 != 0) = false := bne_eq_false_iff_eq.mpr c3
    clear c3
    by_cases c4 : a1 ≥ 1
    · rw [if_pos c4] at H
      have c4b0 : decide (1 ≤ a1) = true := decide_eq_true c4
      clear c4
      obtain rfl := Option.some.inj H
      go_enter Try.func68, Try.ntmps68
      go_wp2
      go_ret
      exact ⟨by first | rfl | (simp; done) | (simp [*]; done), by repeat (first | exact Drawn0.refl _ | apply Drawn0.step)⟩
    · rw [if_neg c4] at H
      have c4b0 : decide (1 ≤ a1) = false := decide_eq_false c4
      clear c4
      obtain rfl := Option.some.inj H
      go_enter Try.func68, Try.ntmps68
      go_wp2
      go_ret
      exact ⟨by first | rfl | (simp; done) | (simp [*]; done), by repeat (first | exact Drawn0.refl _ | apply Drawn0.step)⟩
  · rw [if_neg c3] at H
    have c3b0 : (a0 == 0) = false := beq_eq_false_iff_ne.mpr c3
    have c3b1 : (a0 != 0) = true := bne_iff_ne.mpr c3
    by_cases c5 : a0 = 1
    · rw [if_pos c5] at H
      have c5b0 : (a0 == 1) = true := beq_iff_eq.mpr c5
      have c5b1 : (a0 != 1) = false := bne_eq_false_iff_eq.mpr c5
      clear c5
      by_cases c6 : a1 ≥ 0
      · rw [if_pos c6] at H
        have c6b0 : decide (0 ≤ a1) = true := decide_eq_true c6
        clear c6
        obtain rfl := Option.some.inj H
        go_enter Try.func68, Try.ntmps68
        go_wp2
        go_ret
        exact ⟨by first | rfl | (simp; done) | (simp [*]; done), by repeat (first | exact Drawn0.refl _ | apply Drawn0.step)⟩
      · rw [if_neg c6] at H
        have c6b0 : decide (0 ≤ a1) = false := decide_eq_false c6
        clear c6
        obtain rfl := Option.some.inj H
        go_enter Try.func68, Try.ntmps68
        go_wp2
        go_ret
        exact ⟨by first | rfl | (simp; done) | (simp [*]; done), by repeat (first | exact Drawn0.refl _ | apply Drawn0.step)⟩
    · rw [if_neg c5] at H
      have c5b0 : (a0 == 1) = false := beq_eq_false_iff_ne.mpr c5
      have c5b1 : (a0 != 1) = true := bne_iff_ne.mpr c5
      by_cases c7 : a0 = 2
      · rw [if_pos c7] at H
        have c7b0 : (a0 == 2) = true := beq_iff_eq.mpr c7
        have c7b1 : (a0 != 2) = false := bne_eq_false_iff_eq.mpr c7
        clear c7
        by_cases c8 : a1 ≥ (-1)
        · rw [if_pos c8] at H
          have c8b0 : decide ((-1) ≤ a1) = true := decide_eq_true c8
          clear c8
          obtain rfl := Option.some.inj H
          go_enter Try.func68, Try.ntmps68
          go_wp2
          go_ret
          exact ⟨by first | rfl | (simp; done) | (simp [*]; done), by repeat (first | exact Drawn0.refl _ | apply Drawn0.step)⟩
        · rw [if_neg c8] at H
          have c8b0 : decide ((-1) ≤ a1) = false := decide_eq_false c8
          clear c8
          obtain rfl := Option.some.inj H
          go_enter Try.func68, Try.ntmps68
          go_wp2
          go_ret
          exact ⟨by first | rfl | (simp; done) | (simp [*]; done), by repeat (first | exact Drawn0.refl _ | apply Drawn0.step)⟩
      · rw [if_neg c7] at H
        have c7b0 : (a0 == 2) = false := beq_eq_false_iff_ne.mpr c7
        have c7b1 : (a0 != 2) = true := bne_iff_ne.mpr c7
        by_cases c9 : a0 = 3
        · rw [if_pos c9] at H
          have c9b0 : (a0 == 3) = true := beq_iff_eq.mpr c9
          have c9b1 : (a0 != 3) = false := bne_eq_false_iff_eq.mpr c9
          clear c9
          by_cases c10 : a1 ≥ 0
          · rw [if_pos c10] at H
            have c10b0 : decide (0 ≤ a1) = true := decide_eq_true c10
            clear c10
            obtain rfl := Option.some.inj H
            go_enter Try.func68, Try.ntmps68
            go_wp2
            go_ret
            exact ⟨by first | rfl | (simp; done) | (simp [*]; done), by repeat (first | exact Drawn0.refl _ | apply Drawn0.step)⟩
          · rw [if_neg c10] at H
            have c10b0 : decide (0 ≤ a1) = false := decide_eq_false c10
            clear c10
            obtain rfl := Option.some.inj H
            go_enter Try.func68, Try.ntmps68
            go_wp2
            go_ret
            exact ⟨by first | rfl | (simp; done) | (simp [*]; done), by repeat (first | exact Drawn0.refl _ | apply Drawn0.step)⟩
        · rw [if_neg c9] at H
          have c9b0 : (a0 == 3) = false := beq_eq_false_iff_ne.mpr c9
          have c9b1 : (a0 != 3) = true := bne_iff_ne.mpr c9
          by_cases c11 : a1 ≥ 0
          · rw [if_pos c11] at H
            have c11b0 : decide (0 ≤ a1) = true := decide_eq_true c11
            clear c11
            obtain rfl := Option.some.inj H
            go_enter Try.func68, Try.ntmps68
            go_wp2
            go_ret
            exact ⟨by first | rfl | (simp; done) | (simp [*]; done), by repeat (first | exact Drawn0.refl _ | apply Drawn0.step)⟩
          · rw [if_neg c11] at H
            have c11b0 : decide (0 ≤ a1) = false := decide_eq_false c11
            clear c11
            obtain rfl := Option.some.inj H
            go_enter Try.func68, Try.ntmps68
            go_wp2
            go_ret
            exact ⟨by first | rfl | (simp; done) | (simp [*]; done), by repeat (first | exact Drawn0.refl _ | apply Drawn0.step)⟩

end Go.Proofs.Ytanipbjbaalomaa.PWire
