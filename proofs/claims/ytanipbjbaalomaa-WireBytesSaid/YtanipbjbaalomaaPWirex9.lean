-- A text of this claim, written by this session's program.
import Derived.Test.YtanipbjbaalomaaPWirex0
import Derived.Test.YtanipbjbaalomaaPWirex1
import Derived.Test.YtanipbjbaalomaaPWirex2
import Derived.Test.YtanipbjbaalomaaPWirex4
namespace Go.Proofs.Ytanipbjbaalomaa.PWire
open Go.RowKit Go.Proofs.YtanipbjbaalomaaW.PrintWords Go.Proofs.YtanipbjbaalomaaW.PrintLast Go.Proofs.YtanipbjbaalomaaW.PrintMore
attribute [local go_sem] max2_int min2_int max_two min_two max_three min_three max_four min_four   -- for this text's walks alone
set_option linter.unusedVariables false
set_option linter.unusedSimpArgs false

/-! ### slotmeshlaw04_WireBytes: function 5 -/
mutual
def slotmeshlaw04_WireBytes.j0 : Nat → List Int → List Int → List Int → Int → Bool → Bool → Option (Bool)
  | 0, _, _, _, _, _, _ => none
  | k + 1, x0, x1, x2, x3, x9, x31 => if x31 = true then (some x9) else ((wire_PutBytes.f k x0 x1).bind fun bt438 => (if (x1.length : Int) > 4000 then (if x9 = true then (if bt438.2 = 2 then (some ((bt438.1.length : Int) == 0)) else (none)) else (none)) else (if bt438.2 = 0 then (slotmeshlaw04_WireBytes.j1 k x0 x1 x2 x3 x9 bt438.1 (decide ((bt438.1.length : Int) ≤ (x0.length : Int)))) else (slotmeshlaw04_WireBytes.j1 k x0 x1 x2 x3 x9 bt438.1 true))))
def slotmeshlaw04_WireBytes.j1 : Nat → List Int → List Int → List Int → Int → Bool → List Int → Bool → Option (Bool)
  | 0, _, _, _, _, _, _, _ => none
  | k + 1, x0, x1, x2, x3, x9, x11, x60 => if x60 = true then (some false) else (if 0 ≤ 281474976710656 then ((some (List.replicate 0 0 : List Int)).bind fun y442 => (if y442.length + x11.length < 140737488355328 then ((some (y442 ++ x11 : List Int)).bind fun y445 => (if y445.length + x2.length < 140737488355328 then ((wire_Bytes.f k (y445 ++ x2) (x0.length : Int)).bind fun bt451 => (if x9 = true then (if bt451.2.2 = 0 then ((slotmeshref04_Same.f k x1 bt451.1).bind fun t456 => (if t456 = true then (if bt451.2.1 = (x11.length : Int) then (if 0 ≤ (x0.length : Int) then (if (x0.length : Int) ≤ (x11.length : Int) then ((slotmeshref04_Same.f k (x11.take ((x0.length : Int) : Int).toNat) x0).bind fun t461 => ((wire_Bytes.f k x0 x3).bind fun bt462 => (if bt462.2.2 = 0 then (if x3 < 0 then (slotmeshlaw04_WireBytes.j2 k x0 x3 t461 bt462.1 bt462.2.1 true) else (if bt462.2.1 ≤ x3 then (slotmeshlaw04_WireBytes.j2 k x0 x3 t461 bt462.1 bt462.2.1 true) else (slotmeshlaw04_WireBytes.j2 k x0 x3 t461 bt462.1 bt462.2.1 (decide (bt462.2.1 > (x0.length : Int)))))) else (some t461)))) else (none)) else (none)) else (none)) else (none))) else (none)) else (none))) else (none))) else (none))) else (none))
def slotmeshlaw04_WireBytes.j2 : Nat → List Int → Int → Bool → List Int → Int → Bool → Option (Bool)
  | 0, _, _, _, _, _, _ => none
  | k + 1, x0, x3, x9, x16, x17, x119 => if x119 = true then (some false) else ((wire_PutBytes.f k ([] : List Int) x16).bind fun bt467 => (if x9 = true then (if bt467.2 = 0 then (if 0 ≤ x3 then (if x3 ≤ x17 then (if x17 ≤ (x0.length : Int) then ((slotmeshref04_Same.f k bt467.1 ((x0.take (x17 : Int).toNat).drop (x3 : Int).toNat)).bind fun t472 => (some t472)) else (none)) else (none)) else (none)) else (none)) else (none)))
end
def slotmeshlaw04_WireBytes.f (k : Nat) (l0 : List Int) (l1 : List Int) (l2 : List Int) (a3 : Int) : Option (Bool) := (slotmeshlaw04_head.f k).bind fun t436 => ((slotmeshlaw04_few.f l0 l1).bind fun t437 => (if t437 = true then (slotmeshlaw04_WireBytes.j0 k l0 l1 l2 a3 t436 (decide ((l2.length : Int) > 6000))) else (slotmeshlaw04_WireBytes.j0 k l0 l1 l2 a3 t436 true)))
theorem slotmeshlaw04_WireBytes.mono_l : ∀ k, (∀ y0 y1 y2 y3 y4 y5, LeO (slotmeshlaw04_WireBytes.j0 k y0 y1 y2 y3 y4 y5) (slotmeshlaw04_WireBytes.j0 (k + 1) y0 y1 y2 y3 y4 y5)) ∧ (∀ y0 y1 y2 y3 y4 y5 y6, LeO (slotmeshlaw04_WireBytes.j1 k y0 y1 y2 y3 y4 y5 y6) (slotmeshlaw04_WireBytes.j1 (k + 1) y0 y1 y2 y3 y4 y5 y6)) ∧ (∀ y0 y1 y2 y3 y4 y5, LeO (slotmeshlaw04_WireBytes.j2 k y0 y1 y2 y3 y4 y5) (slotmeshlaw04_WireBytes.j2 (k + 1) y0 y1 y2 y3 y4 y5))
  | 0 => ⟨fun _ _ _ _ _ _ r h => by simp [slotmeshlaw04_WireBytes.j0] at h, fun _ _ _ _ _ _ _ r h => by simp [slotmeshlaw04_WireBytes.j1] at h, fun _ _ _ _ _ _ r h => by simp [slotmeshlaw04_WireBytes.j2] at h⟩
  | k + 1 => by
    obtain ⟨ih0, ih1, ih2⟩ := slotmeshlaw04_WireBytes.mono_l k
    refine ⟨?_, ?_, ?_⟩
    · intro y0 y1 y2 y3 y4 y5
      unfold slotmeshlaw04_WireBytes.j0
      repeat' first
      | (with_reducible exact ih0 _ _ _ _ _ _)
      | (with_reducible exact ih1 _ _ _ _ _ _ _)
      | (with_reducible exact ih2 _ _ _ _ _ _)
      | (with_reducible exact slotmeshlaw04_head.mono _)
      | (with_reducible exact slotmeshref04_Same.mono _ _ _)
      | (with_reducible exact wire_Bytes.mono _ _ _)
      | (with_reducible exact wire_PutBytes.mono _ _ _)
      | (with_reducible exact LeO.refl _)
      | (with_reducible exact LeO.none _)
      | (with_reducible refine LeO.ite ?_ ?_)
      | (with_reducible refine LeO.bind ?_ (fun _ => ?_))
      | exact ih0 _ _ _ _ _ _
      | exact ih1 _ _ _ _ _ _ _
      | exact ih2 _ _ _ _ _ _
      | exact slotmeshlaw04_head.mono _
      | exact slotmeshref04_Same.mono _ _ _
      | exact wire_Bytes.mono _ _ _
      | exact wire_PutBytes.mono _ _ _
      | exact LeO.none _
      | refine LeO.ite ?_ ?_
      | refine LeO.bind ?_ (fun _ => ?_)
    · intro y0 y1 y2 y3 y4 y5 y6
      unfold slotmeshlaw04_WireBytes.j1
      repeat' first
      | (with_reducible exact ih0 _ _ _ _ _ _)
      | (with_reducible exact ih1 _ _ _ _ _ _ _)
      | (with_reducible exact ih2 _ _ _ _ _ _)
      | (with_reducible exact slotmeshlaw04_head.mono _)
      | (with_reducible exact slotmeshref04_Same.mono _ _ _)
      | (with_reducible exact wire_Bytes.mono _ _ _)
      | (with_reducible exact wire_PutBytes.mono _ _ _)
      | (with_reducible exact LeO.refl _)
      | (with_reducible exact LeO.none _)
      | (with_reducible refine LeO.ite ?_ ?_)
      | (with_reducible refine LeO.bind ?_ (fun _ => ?_))
      | exact ih0 _ _ _ _ _ _
      | exact ih1 _ _ _ _ _ _ _
      | exact ih2 _ _ _ _ _ _
      | exact slotmeshlaw04_head.mono _
      | exact slotmeshref04_Same.mono _ _ _
      | exact wire_Bytes.mono _ _ _
      | exact wire_PutBytes.mono _ _ _
      | exact LeO.none _
      | refine LeO.ite ?_ ?_
      | refine LeO.bind ?_ (fun _ => ?_)
    · intro y0 y1 y2 y3 y4 y5
      unfold slotmeshlaw04_WireBytes.j2
      repeat' first
      | (with_reducible exact ih0 _ _ _ _ _ _)
      | (with_reducible exact ih1 _ _ _ _ _ _ _)
      | (with_reducible exact ih2 _ _ _ _ _ _)
      | (with_reducible exact slotmeshlaw04_head.mono _)
      | (with_reducible exact slotmeshref04_Same.mono _ _ _)
      | (with_reducible exact wire_Bytes.mono _ _ _)
      | (with_reducible exact wire_PutBytes.mono _ _ _)
      | (with_reducible exact LeO.refl _)
      | (with_reducible exact LeO.none _)
      | (with_reducible refine LeO.ite ?_ ?_)
      | (with_reducible refine LeO.bind ?_ (fun _ => ?_))
      | exact ih0 _ _ _ _ _ _
      | exact ih1 _ _ _ _ _ _ _
      | exact ih2 _ _ _ _ _ _
      | exact slotmeshlaw04_head.mono _
      | exact slotmeshref04_Same.mono _ _ _
      | exact wire_Bytes.mono _ _ _
      | exact wire_PutBytes.mono _ _ _
      | exact LeO.none _
      | refine LeO.ite ?_ ?_
      | refine LeO.bind ?_ (fun _ => ?_)
theorem slotmeshlaw04_WireBytes.mono : ∀ a0 a1 a2 a3 k, LeO (slotmeshlaw04_WireBytes.f k a0 a1 a2 a3) (slotmeshlaw04_WireBytes.f (k + 1) a0 a1 a2 a3) := by
  intro a0 a1 a2 a3 k
  obtain ⟨ih0, ih1, ih2⟩ := slotmeshlaw04_WireBytes.mono_l k
  unfold slotmeshlaw04_WireBytes.f
  repeat' first
      | (with_reducible exact ih0 _ _ _ _ _ _)
      | (with_reducible exact ih1 _ _ _ _ _ _ _)
      | (with_reducible exact ih2 _ _ _ _ _ _)
      | (with_reducible exact slotmeshlaw04_head.mono _)
      | (with_reducible exact slotmeshref04_Same.mono _ _ _)
      | (with_reducible exact wire_Bytes.mono _ _ _)
      | (with_reducible exact wire_PutBytes.mono _ _ _)
      | (with_reducible exact LeO.refl _)
      | (with_reducible exact LeO.none _)
      | (with_reducible refine LeO.ite ?_ ?_)
      | (with_reducible refine LeO.bind ?_ (fun _ => ?_))
      | exact ih0 _ _ _ _ _ _
      | exact ih1 _ _ _ _ _ _ _
      | exact ih2 _ _ _ _ _ _
      | exact slotmeshlaw04_head.mono _
      | exact slotmeshref04_Same.mono _ _ _
      | exact wire_Bytes.mono _ _ _
      | exact wire_PutBytes.mono _ _ _
      | exact LeO.none _
      | refine LeO.ite ?_ ?_
      | refine LeO.bind ?_ (fun _ => ?_)
set_option maxHeartbeats 8000000 in
set_option maxRecDepth 100000 in
theorem slotmeshlaw04_WireBytes.calls (k : Nat) (A0 : Option Addr) (c0 : Nat) (l0 : List Int) (A1 : Option Addr) (c1 : Nat) (l1 : List Int) (A2 : Option Addr) (c2 : Nat) (l2 : List Int) (a3 : Int) (r : Bool) (w : World) (hr0 : Kd.C (Kd.int .u8) w A0 l0.length l0) (hc0 : l0.length ≤ c0) (hr1 : Kd.C (Kd.int .u8) w A1 l1.length l1) (hc1 : l1.length ≤ c1) (hr2 : Kd.C (Kd.int .u8) w A2 l2.length l2) (hc2 : l2.length ≤ c2) (h : slotmeshlaw04_WireBytes.f k l0 l1 l2 a3 = some r) :
    Calls Try.prog 5 #[.slice A0 l0.length c0, .slice A1 l1.length c1, .slice A2 l2.length c2, .int .i64 a3] w fun e w' => e = .returned (.bool r) ∧ Below w.heap.size w w' := by
  have HR0 := Aside0.mk hr0
  have HC0 := Aside0.mk hc0
  clear hr0 hc0
  have HR1 := Aside0.mk hr1
  have HC1 := Aside0.mk hc1
  clear hr1 hc1
  have HR2 := Aside0.mk hr2
  have HC2 := Aside0.mk hc2
  clear hr2 hc2
  have HB := Aside0.mk (Below.refl w.heap.size w)
  have H : ((slotmeshlaw04_head.f k).bind fun t436 => ((slotmeshlaw04_few.f l0 l1).bind fun t437 => (if t437 = true then (slotmeshlaw04_WireBytes.j0 k l0 l1 l2 a3 t436 (decide ((l2.length : Int) > 6000))) else (slotmeshlaw04_WireBytes.j0 k l0 l1 l2 a3 t436 true)))) = some r := h
  clear h
  replace H := Option.bind_eq_some_iff.mp H
  obtain ⟨t436, A50, H⟩ := H
  replace H : ((slotmeshlaw04_few.f l0 l1).bind fun t437 => (if t437 = true then (slotmeshlaw04_WireBytes.j0 k l0 l1 l2 a3 t436 (decide ((l2.length : Int) > 6000))) else (slotmeshlaw04_WireBytes.j0 k l0 l1 l2 a3 t436 true))) = some r := H
  have A5 := Aside0.mk A50
  clear A50
  replace H := Option.bind_eq_some_iff.mp H
  obtain ⟨t437, A60, H⟩ := H
  replace H : (if t437 = true then (slotmeshlaw04_WireBytes.j0 k l0 l1 l2 a3 t436 (decide ((l2.length : Int) > 6000))) else (slotmeshlaw04_WireBytes.j0 k l0 l1 l2 a3 t436 true)) = some r := H
  have A6 := Aside0.mk A60
  clear A60
  have HC7 := Aside0.mk H
  clear H
  go_enter Try.func5, Try.ntmps5
  go_upto_region 3 with (first | ((with_reducible refine gate_callee (f := 17) rfl ?_); refine goesL_ (some 21) rfl rfl Try.func17 (by kernel_rfl) rfl #[] rfl (by (try simp only [List.map_toArray, List.map_cons, List.map_nil]); first | done | rfl | (simp only [List.length_drop, List.length_take]; rfl)) ?_; (with_reducible refine (slotmeshlaw04_head.calls k  t436 _ A5.out).mono ?_); rintro e w8 ⟨rfl, hb⟩; refine ⟨_, rfl, ?_⟩; have n0_ := Aside0.mk (below_step (by repeat (first | (with_reducible first | exact HB.out | apply below_alloc | apply pw_below_drewN | apply below_drew1) | exact HB.out)) hb); clear HB; have HB := n0_; clear n0_; (try clear hb); (try clear hb2); (try clear hk); (try clear hi)) | ((with_reducible refine gate_callee (f := 18) rfl ?_); refine goesL_ (some 24) rfl rfl Try.func18 (by kernel_rfl) rfl #[.slice A0 l0.length c0, .slice A1 l1.length c1] rfl (by (try simp only [List.map_toArray, List.map_cons, List.map_nil]); first | done | rfl | (simp only [List.length_drop, List.length_take]; rfl)) ?_; (with_reducible refine (slotmeshlaw04_few.calls _ _ l0 _ _ l1 t437 _ ?side1 ?side2 ?side3 ?side4 A6.out).mono ?_); (case side1 => repeat (first | exact (Kd.C_below HR0.out HB.out) | (with_reducible refine Kd.C_alloc ?_ _) | (with_reducible refine Kd.C_drewN ?_ _) | (with_reducible refine Kd.C_drew ?_))); (case side2 => exact HC0.out); (case side3 => repeat (first | exact (Kd.C_below HR1.out HB.out) | (with_reducible refine Kd.C_alloc ?_ _) | (with_reducible refine Kd.C_drewN ?_ _) | (with_reducible refine Kd.C_drew ?_))); (case side4 => exact HC1.out); rintro e w' ⟨rfl, ⟨nd, rfl⟩⟩; refine ⟨_, rfl, ?_⟩))
  (try simp only [Act.put, List.setIfInBounds_toArray, List.set_cons_zero, List.set_cons_succ])
  go_cut [31] (fun v31 wc => ∃ (kq : Nat) (x31_6 : Bool), v31 = .bool x31_6 ∧ Aside0 (slotmeshlaw04_WireBytes.j0 kq l0 l1 l2 a3 t436 x31_6 = some r) ∧ Aside0 (kq ≤ k) ∧ Aside0 (Below w.heap.size w wc))
  case first =>
    have H := HC7.out
    clear HC7
    by_cases c9 : t437 = true
    · subst c9
      have H1 : (slotmeshlaw04_WireBytes.j0 k l0 l1 l2 a3 t436 (decide ((l2.length : Int) > 6000))) = some r := by rw [if_pos rfl] at H; exact H
      clear H
      have H := H1
      clear H1
      have H' := Aside0.mk H
      clear H
      go_wp2
      go_meet
      case rel => exact ⟨_, (decide ((l2.length : Int) > 6000)), (by first | rfl | (simp; done) | (simp [*]; done)), H', ⟨by first | omega | exact Nat.le_refl _⟩, ⟨by repeat (first | (with_reducible first | exact HB.out | apply below_alloc | apply pw_below_drewN | apply below_drew1) | exact HB.out)⟩⟩
    · replace c9 := Bool.eq_false_iff.mpr c9
      subst c9
      have H1 : (slotmeshlaw04_WireBytes.j0 k l0 l1 l2 a3 t436 true) = some r := by rw [if_neg (show ¬ (false = true) by decide)] at H; exact H
      clear H
      have H := H1
      clear H1
      have H' := Aside0.mk H
      clear H
      go_wp2
      go_meet
      case rel => exact ⟨_, (true), (by first | rfl | (simp; done) | (simp [*]; done)), H', ⟨by first | omega | exact Nat.le_refl _⟩, ⟨by repeat (first | (with_reducible first | exact HB.out | apply below_alloc | apply pw_below_drewN | apply below_drew1) | exact HB.out)⟩⟩
  case rest =>
    clear HC7
    try clear c1
    try clear c2
    try clear p2
    try clear c5
    try clear c9
    obtain ⟨kq, x31_6, rfl, HA, HJ6, HB⟩ := hcut
    cases kq with
    | zero => exact absurd HA.out (by simp [slotmeshlaw04_WireBytes.j0])
    | succ kj6 =>
      have H := HA.out
      clear HA
      simp only [slotmeshlaw04_WireBytes.j0] at H
      by_cases c10 : x31_6 = true
      · subst c10
        have H1 : (some t436) = some r := by rw [if_pos rfl] at H; exact H
        clear H
        have H := H1
        clear H1
        obtain rfl := Option.some.inj H
        go_wp2
        go_ret
        exact ⟨by first | rfl | (simp [errW_none, errW_some] <;> rfl) | (simp [*, errW_none, errW_some] <;> rfl), by repeat (first | (with_reducible first | exact HB.out | apply below_alloc | apply pw_below_drewN | apply below_drew1) | exact HB.out)⟩
      · replace c10 := Bool.eq_false_iff.mpr c10
        subst c10
        have H1 : ((wire_PutBytes.f kj6 l0 l1).bind fun bt438 => (if (l1.length : Int) > 4000 then (if t436 = true then (if bt438.2 = 2 then (some ((bt438.1.length : Int) == 0)) else (none)) else (none)) else (if bt438.2 = 0 then (slotmeshlaw04_WireBytes.j1 kj6 l0 l1 l2 a3 t436 bt438.1 (decide ((bt438.1.length : Int) ≤ (l0.length : Int)))) else (slotmeshlaw04_WireBytes.j1 kj6 l0 l1 l2 a3 t436 bt438.1 true)))) = some r := by rw [if_neg (show ¬ (false = true) by decide)] at H; exact H
        clear H
        have H := H1
        clear H1
        replace H := Option.bind_eq_some_iff.mp H
        obtain ⟨⟨t438, t439⟩, A110, H⟩ := H
        replace H : (if (l1.length : Int) > 4000 then (if t436 = true then (if t439 = 2 then (some ((t438.length : Int) == 0)) else (none)) else (none)) else (if t439 = 0 then (slotmeshlaw04_WireBytes.j1 kj6 l0 l1 l2 a3 t436 t438 (decide ((t438.length : Int) ≤ (l0.length : Int)))) else (slotmeshlaw04_WireBytes.j1 kj6 l0 l1 l2 a3 t436 t438 true))) = some r := H
        have A11 := Aside0.mk A110
        clear A110
        by_cases c12 : (l1.length : Int) > 4000
        · rw [if_pos c12] at H
          have c12b0 : decide (4000 < (l1.length : Int)) = true := decide_eq_true c12
          have c12b1 : decide (4000 < l1.length) = true := decide_eq_true (by omega)
          clear c12
          by_cases c13 : t436 = true
          · subst c13
            have H1 : (if t439 = 2 then (some ((t438.length : Int) == 0)) else (none)) = some r := by rw [if_pos rfl] at H; exact H
            clear H
            have H := H1
            clear H1
            by_cases c14 : t439 = 2
            · rw [if_pos c14] at H
              have c14b0 : (t439 == 2) = true := beq_iff_eq.mpr c14
              have c14b1 : (t439 != 2) = false := bne_eq_false_iff_eq.mpr c14
              clear c14
              obtain rfl := Option.some.inj H
              go_wp2_with (first | ((with_reducible refine gate_callee (f := 24) rfl ?_); refine goesL_ (some 36) rfl rfl Try.func24 (by kernel_rfl) rfl #[.slice A0 l0.length c0, .slice A1 l1.length c1] rfl (by (try simp only [List.map_toArray, List.map_cons, List.map_nil]); first | done | rfl | (simp only [List.length_drop, List.length_take]; rfl)) ?_; (with_reducible refine (wire_PutBytes.calls kj6 _ _ l0 _ _ l1 t438 t439 _ ?side1 ?side2 ?side3 ?side4 A11.out).mono ?_); (case side1 => repeat (first | exact (Kd.C_below HR0.out HB.out) | (with_reducible refine Kd.C_alloc ?_ _) | (with_reducible refine Kd.C_drewN ?_ _) | (with_reducible refine Kd.C_drew ?_))); (case side2 => exact HC0.out); (case side3 => repeat (first | exact (Kd.C_below HR1.out HB.out) | (with_reducible refine Kd.C_alloc ?_ _) | (with_reducible refine Kd.C_drewN ?_ _) | (with_reducible refine Kd.C_drew ?_))); (case side4 => exact HC1.out); rintro e w15 ⟨v440, rfl, ho0, hb⟩; refine ⟨_, rfl, ?_⟩; have n0_ := Aside0.mk (Kd.R_lower ho0 (below_size (by repeat (first | (with_reducible first | exact HB.out | apply below_alloc | apply pw_below_drewN | apply below_drew1) | exact HB.out)))); have n1_ := Aside0.mk (below_step (by repeat (first | (with_reducible first | exact HB.out | apply below_alloc | apply pw_below_drewN | apply below_drew1) | exact HB.out)) hb); clear HB; have HO441 := n0_; have HB := n1_; clear n0_ n1_; (try clear hb); (try clear hb2); (try clear hk); (try clear hi); (try clear ho0); obtain ⟨Ao16, co16, eo16⟩ := Kd.R_slice HO441.out; subst eo16))
              go_ret
              exact ⟨by first | rfl | (simp [errW_none, errW_some] <;> rfl) | (simp [*, errW_none, errW_some] <;> rfl), by repeat (first | (with_reducible first | exact HB.out | apply below_alloc | apply pw_below_drewN | apply below_drew1) | exact HB.out)⟩
            · rw [if_neg c14] at H
              exact absurd H (by simp)
          · replace c13 := Bool.eq_false_iff.mpr c13
            subst c13
            have H1 : (none) = some r := by rw [if_neg (show ¬ (false = true) by decide)] at H; exact H
            clear H
            have H := H1
            clear H1
            exact absurd H (by simp)
        · rw [if_neg c12] at H
          have c12b0 : decide (4000 < (l1.length : Int)) = false := decide_eq_false c12
          have c12b1 : decide (4000 < l1.length) = false := decide_eq_false (by omega)
          clear c12
          have HC17 := Aside0.mk H
          clear H
          go_upto_region 8 with (first | ((with_reducible refine gate_callee (f := 24) rfl ?_); refine goesL_ (some 36) rfl rfl Try.func24 (by kernel_rfl) rfl #[.slice A0 l0.length c0, .slice A1 l1.length c1] rfl (by (try simp only [List.map_toArray, List.map_cons, List.map_nil]); first | done | rfl | (simp only [List.length_drop, List.length_take]; rfl)) ?_; (with_reducible refine (wire_PutBytes.calls kj6 _ _ l0 _ _ l1 t438 t439 _ ?side1 ?side2 ?side3 ?side4 A11.out).mono ?_); (case side1 => repeat (first | exact (Kd.C_below HR0.out HB.out) | (with_reducible refine Kd.C_alloc ?_ _) | (with_reducible refine Kd.C_drewN ?_ _) | (with_reducible refine Kd.C_drew ?_))); (case side2 => exact HC0.out); (case side3 => repeat (first | exact (Kd.C_below HR1.out HB.out) | (with_reducible refine Kd.C_alloc ?_ _) | (with_reducible refine Kd.C_drewN ?_ _) | (with_reducible refine Kd.C_drew ?_))); (case side4 => exact HC1.out); rintro e w18 ⟨v440, rfl, ho0, hb⟩; refine ⟨_, rfl, ?_⟩; have n0_ := Aside0.mk (Kd.R_lower ho0 (below_size (by repeat (first | (with_reducible first | exact HB.out | apply below_alloc | apply pw_below_drewN | apply below_drew1) | exact HB.out)))); have n1_ := Aside0.mk (below_step (by repeat (first | (with_reducible first | exact HB.out | apply below_alloc | apply pw_below_drewN | apply below_drew1) | exact HB.out)) hb); clear HB; have HO441 := n0_; have HB := n1_; clear n0_ n1_; (try clear hb); (try clear hb2); (try clear hk); (try clear hi); (try clear ho0)))
          (try simp only [Act.put, List.setIfInBounds_toArray, List.set_cons_zero, List.set_cons_succ])
          go_cut [60] (fun v60 wc => ∃ (kq : Nat) (x60_16 : Bool), v60 = .bool x60_16 ∧ Aside0 (slotmeshlaw04_WireBytes.j1 kq l0 l1 l2 a3 t436 t438 x60_16 = some r) ∧ Aside0 (kq ≤ kj6) ∧ Aside0 (Kd.R (Kd.int .u8) 5 wc w.heap.size (fun _ => True) v440 t438) ∧ Aside0 (Below w.heap.size w wc))
          case first =>
            have H := HC17.out
            clear HC17
            by_cases c19 : t439 = 0
            · rw [if_pos c19] at H
              have c19b0 : (t439 == 0) = true := beq_iff_eq.mpr c19
              have c19b1 : (t439 != 0) = false := bne_eq_false_iff_eq.mpr c19
              clear c19
              (first | rw [c19b0] | (simp only [i64_w, i32_w]; rw [c19b0]) | skip)
              have H' := Aside0.mk H
              clear H
              obtain ⟨Ao20, co20, eo20⟩ := Kd.R_slice HO441.out
              subst eo20
              go_wp2
              go_meet
              case rel => exact ⟨_, (decide ((t438.length : Int) ≤ (l0.length : Int))), (by first | rfl | (simp; done) | (simp [*]; done)), H', ⟨by have := HJ6.out; first | omega | exact Nat.le_refl _⟩, ⟨by (with_reducible repeat (first | apply Kd.R_alloc | apply Kd.R_drewN | apply Kd.R_drew)); exact HO441.out⟩, ⟨by repeat (first | (with_reducible first | exact HB.out | apply below_alloc | apply pw_below_drewN | apply below_drew1) | exact HB.out)⟩⟩
            · rw [if_neg c19] at H
              have c19b0 : (t439 == 0) = false := beq_eq_false_iff_ne.mpr c19
              have c19b1 : (t439 != 0) = true := bne_iff_ne.mpr c19
              (first | rw [c19b0] | (simp only [i64_w, i32_w]; rw [c19b0]) | skip)
              have H' := Aside0.mk H
              clear H
              go_wp2
              go_meet
              case rel => exact ⟨_, (true), (by first | rfl | (simp; done) | (simp [*]; done)), H', ⟨by have := HJ6.out; first | omega | exact Nat.le_refl _⟩, ⟨by (with_reducible repeat (first | apply Kd.R_alloc | apply Kd.R_drewN | apply Kd.R_drew)); exact HO441.out⟩, ⟨by repeat (first | (with_reducible first | exact HB.out | apply below_alloc | apply pw_below_drewN | apply below_drew1) | exact HB.out)⟩⟩
          case rest =>
            clear HC17
            try clear c1
            try clear c2
            try clear p2
            try clear c5
            try clear c9
            try clear c10
            try clear c12
            try clear c12b0
            try clear c12b1
            try clear c13
            try clear c14
            try clear c14b0
            try clear c14b1
            try clear c17
            try clear c18
            try clear c19
            try clear c19b0
            try clear c19b1
            try clear p2
            obtain ⟨kq, x60_16, rfl, HA, HJ16, HO_11, HB⟩ := hcut
            cases kq with
            | zero => exact absurd HA.out (by simp [slotmeshlaw04_WireBytes.j1])
            | succ kj16 =>
              have H := HA.out
              clear HA
              simp only [slotmeshlaw04_WireBytes.j1] at H
              by_cases c21 : x60_16 = true
              · subst c21
                have H1 : (some false) = some r := by rw [if_pos rfl] at H; exact H
                clear H
                have H := H1
                clear H1
                obtain rfl := Option.some.inj H
                go_wp2
                go_ret
                exact ⟨by first | rfl | (simp [errW_none, errW_some] <;> rfl) | (simp [*, errW_none, errW_some] <;> rfl), by repeat (first | (with_reducible first | exact HB.out | apply below_alloc | apply pw_below_drewN | apply below_drew1) | exact HB.out)⟩
              · replace c21 := Bool.eq_false_iff.mpr c21
                subst c21
                have H1 : (if 0 ≤ 281474976710656 then ((some (List.replicate 0 0 : List Int)).bind fun y442 => (if y442.length + t438.length < 140737488355328 then ((some (y442 ++ t438 : List Int)).bind fun y445 => (if y445.length + l2.length < 140737488355328 then ((wire_Bytes.f kj16 (y445 ++ l2) (l0.length : Int)).bind fun bt451 => (if t436 = true then (if bt451.2.2 = 0 then ((slotmeshref04_Same.f kj16 l1 bt451.1).bind fun t456 => (if t456 = true then (if bt451.2.1 = (t438.length : Int) then (if 0 ≤ (l0.length : Int) then (if (l0.length : Int) ≤ (t438.length : Int) then ((slotmeshref04_Same.f kj16 (t438.take ((l0.length : Int) : Int).toNat) l0).bind fun t461 => ((wire_Bytes.f kj16 l0 a3).bind fun bt462 => (if bt462.2.2 = 0 then (if a3 < 0 then (slotmeshlaw04_WireBytes.j2 kj16 l0 a3 t461 bt462.1 bt462.2.1 true) else (if bt462.2.1 ≤ a3 then (slotmeshlaw04_WireBytes.j2 kj16 l0 a3 t461 bt462.1 bt462.2.1 true) else (slotmeshlaw04_WireBytes.j2 kj16 l0 a3 t461 bt462.1 bt462.2.1 (decide (bt462.2.1 > (l0.length : Int)))))) else (some t461)))) else (none)) else (none)) else (none)) else (none))) else (none)) else (none))) else (none))) else (none))) else (none)) = some r := by rw [if_neg (show ¬ (false = true) by decide)] at H; exact H
                clear H
                have H := H1
                clear H1
                by_cases c22 : 0 ≤ 281474976710656
                · rw [if_pos c22] at H
                  have c22b0 := eq_true c22
                  have c22b1 : decide (0 ≤ 281474976710656) = true := decide_eq_true c22
                  clear c22
                  obtain ⟨y442, hy442⟩ : ∃ y_ : List Int, y_ = (List.replicate 0 0) := ⟨_, rfl⟩
                  replace H : (if y442.length + t438.length < 140737488355328 then ((some (y442 ++ t438 : List Int)).bind fun y445 => (if y445.length + l2.length < 140737488355328 then ((wire_Bytes.f kj16 (y445 ++ l2) (l0.length : Int)).bind fun bt451 => (if t436 = true then (if bt451.2.2 = 0 then ((slotmeshref04_Same.f kj16 l1 bt451.1).bind fun t456 => (if t456 = true then (if bt451.2.1 = (t438.length : Int) then (if 0 ≤ (l0.length : Int) then (if (l0.length : Int) ≤ (t438.length : Int) then ((slotmeshref04_Same.f kj16 (t438.take ((l0.length : Int) : Int).toNat) l0).bind fun t461 => ((wire_Bytes.f kj16 l0 a3).bind fun bt462 => (if bt462.2.2 = 0 then (if a3 < 0 then (slotmeshlaw04_WireBytes.j2 kj16 l0 a3 t461 bt462.1 bt462.2.1 true) else (if bt462.2.1 ≤ a3 then (slotmeshlaw04_WireBytes.j2 kj16 l0 a3 t461 bt462.1 bt462.2.1 true) else (slotmeshlaw04_WireBytes.j2 kj16 l0 a3 t461 bt462.1 bt462.2.1 (decide (bt462.2.1 > (l0.length : Int)))))) else (some t461)))) else (none)) else (none)) else (none)) else (none))) else (none)) else (none))) else (none))) else (none)) = some r := by first | (rw [hy442]; with_reducible exact H) | (have H2_ := (Option.bind_some _ _).symm.trans H; rw [hy442]; with_reducible exact H2_) | (have H2_ := (Option.bind_some _ _).symm.trans H; with_reducible exact H2_) | with_reducible exact H | (rw [hy442]; exact H) | exact H
                  have Ny442 := Aside0.mk hy442
                  clear hy442
                  by_cases c23 : y442.length + t438.length < 140737488355328
                  · rw [if_pos c23] at H
                    have LMc23 := Aside0.mk c23
                    clear c23
                    obtain ⟨y445, hy445⟩ : ∃ y_ : List Int, y_ = (y442 ++ t438) := ⟨_, rfl⟩
                    replace H : (if y445.length + l2.length < 140737488355328 then ((wire_Bytes.f kj16 (y445 ++ l2) (l0.length : Int)).bind fun bt451 => (if t436 = true then (if bt451.2.2 = 0 then ((slotmeshref04_Same.f kj16 l1 bt451.1).bind fun t456 => (if t456 = true then (if bt451.2.1 = (t438.length : Int) then (if 0 ≤ (l0.length : Int) then (if (l0.length : Int) ≤ (t438.length : Int) then ((slotmeshref04_Same.f kj16 (t438.take ((l0.length : Int) : Int).toNat) l0).bind fun t461 => ((wire_Bytes.f kj16 l0 a3).bind fun bt462 => (if bt462.2.2 = 0 then (if a3 < 0 then (slotmeshlaw04_WireBytes.j2 kj16 l0 a3 t461 bt462.1 bt462.2.1 true) else (if bt462.2.1 ≤ a3 then (slotmeshlaw04_WireBytes.j2 kj16 l0 a3 t461 bt462.1 bt462.2.1 true) else (slotmeshlaw04_WireBytes.j2 kj16 l0 a3 t461 bt462.1 bt462.2.1 (decide (bt462.2.1 > (l0.length : Int)))))) else (some t461)))) else (none)) else (none)) else (none)) else (none))) else (none)) else (none))) else (none)) = some r := by first | (rw [hy445]; with_reducible exact H) | (have H2_ := (Option.bind_some _ _).symm.trans H; rw [hy445]; with_reducible exact H2_) | (have H2_ := (Option.bind_some _ _).symm.trans H; with_reducible exact H2_) | with_reducible exact H | (rw [hy445]; exact H) | exact H
                    have Ny445 := Aside0.mk hy445
                    clear hy445
                    by_cases c24 : y445.length + l2.length < 140737488355328
                    · rw [if_pos c24] at H
                      have LMc24 := Aside0.mk c24
                      clear c24
                      obtain ⟨y448, hy448⟩ : ∃ y_ : List Int, y_ = (y445 ++ l2) := ⟨_, rfl⟩
                      replace H : ((wire_Bytes.f kj16 y448 (l0.length : Int)).bind fun bt451 => (if t436 = true then (if bt451.2.2 = 0 then ((slotmeshref04_Same.f kj16 l1 bt451.1).bind fun t456 => (if t456 = true then (if bt451.2.1 = (t438.length : Int) then (if 0 ≤ (l0.length : Int) then (if (l0.length : Int) ≤ (t438.length : Int) then ((slotmeshref04_Same.f kj16 (t438.take ((l0.length : Int) : Int).toNat) l0).bind fun t461 => ((wire_Bytes.f kj16 l0 a3).bind fun bt462 => (if bt462.2.2 = 0 then (if a3 < 0 then (slotmeshlaw04_WireBytes.j2 kj16 l0 a3 t461 bt462.1 bt462.2.1 true) else (if bt462.2.1 ≤ a3 then (slotmeshlaw04_WireBytes.j2 kj16 l0 a3 t461 bt462.1 bt462.2.1 true) else (slotmeshlaw04_WireBytes.j2 kj16 l0 a3 t461 bt462.1 bt462.2.1 (decide (bt462.2.1 > (l0.length : Int)))))) else (some t461)))) else (none)) else (none)) else (none)) else (none))) else (none)) else (none))) = some r := by first | (rw [hy448]; with_reducible exact H) | (have H2_ := (Option.bind_some _ _).symm.trans H; rw [hy448]; with_reducible exact H2_) | (have H2_ := (Option.bind_some _ _).symm.trans H; with_reducible exact H2_) | with_reducible exact H | (rw [hy448]; exact H) | exact H
                      have Ny448 := Aside0.mk hy448
                      clear hy448
                      replace H := Option.bind_eq_some_iff.mp H
                      obtain ⟨⟨t451, t452, t453⟩, A250, H⟩ := H
                      replace H : (if t436 = true then (if t453 = 0 then ((slotmeshref04_Same.f kj16 l1 t451).bind fun t456 => (if t456 = true then (if t452 = (t438.length : Int) then (if 0 ≤ (l0.length : Int) then (if (l0.length : Int) ≤ (t438.length : Int) then ((slotmeshref04_Same.f kj16 (t438.take ((l0.length : Int) : Int).toNat) l0).bind fun t461 => ((wire_Bytes.f kj16 l0 a3).bind fun bt462 => (if bt462.2.2 = 0 then (if a3 < 0 then (slotmeshlaw04_WireBytes.j2 kj16 l0 a3 t461 bt462.1 bt462.2.1 true) else (if bt462.2.1 ≤ a3 then (slotmeshlaw04_WireBytes.j2 kj16 l0 a3 t461 bt462.1 bt462.2.1 true) else (slotmeshlaw04_WireBytes.j2 kj16 l0 a3 t461 bt462.1 bt462.2.1 (decide (bt462.2.1 > (l0.length : Int)))))) else (some t461)))) else (none)) else (none)) else (none)) else (none))) else (none)) else (none)) = some r := H
                      have A25 := Aside0.mk A250
                      clear A250
                      by_cases c26 : t436 = true
                      · subst c26
                        have H1 : (if t453 = 0 then ((slotmeshref04_Same.f kj16 l1 t451).bind fun t456 => (if t456 = true then (if t452 = (t438.length : Int) then (if 0 ≤ (l0.length : Int) then (if (l0.length : Int) ≤ (t438.length : Int) then ((slotmeshref04_Same.f kj16 (t438.take ((l0.length : Int) : Int).toNat) l0).bind fun t461 => ((wire_Bytes.f kj16 l0 a3).bind fun bt462 => (if bt462.2.2 = 0 then (if a3 < 0 then (slotmeshlaw04_WireBytes.j2 kj16 l0 a3 t461 bt462.1 bt462.2.1 true) else (if bt462.2.1 ≤ a3 then (slotmeshlaw04_WireBytes.j2 kj16 l0 a3 t461 bt462.1 bt462.2.1 true) else (slotmeshlaw04_WireBytes.j2 kj16 l0 a3 t461 bt462.1 bt462.2.1 (decide (bt462.2.1 > (l0.length : Int)))))) else (some t461)))) else (none)) else (none)) else (none)) else (none))) else (none)) = some r := by rw [if_pos rfl] at H; exact H
                        clear H
                        have H := H1
                        clear H1
                        by_cases c27 : t453 = 0
                        · rw [if_pos c27] at H
                          have c27b0 : (t453 == 0) = true := beq_iff_eq.mpr c27
                          have c27b1 : (t453 != 0) = false := bne_eq_false_iff_eq.mpr c27
                          clear c27
                          replace H := Option.bind_eq_some_iff.mp H
                          obtain ⟨t456, A280, H⟩ := H
                          replace H : (if t456 = true then (if t452 = (t438.length : Int) then (if 0 ≤ (l0.length : Int) then (if (l0.length : Int) ≤ (t438.length : Int) then ((slotmeshref04_Same.f kj16 (t438.take ((l0.length : Int) : Int).toNat) l0).bind fun t461 => ((wire_Bytes.f kj16 l0 a3).bind fun bt462 => (if bt462.2.2 = 0 then (if a3 < 0 then (slotmeshlaw04_WireBytes.j2 kj16 l0 a3 t461 bt462.1 bt462.2.1 true) else (if bt462.2.1 ≤ a3 then (slotmeshlaw04_WireBytes.j2 kj16 l0 a3 t461 bt462.1 bt462.2.1 true) else (slotmeshlaw04_WireBytes.j2 kj16 l0 a3 t461 bt462.1 bt462.2.1 (decide (bt462.2.1 > (l0.length : Int)))))) else (some t461)))) else (none)) else (none)) else (none)) else (none)) = some r := H
                          have A28 := Aside0.mk A280
                          clear A280
                          by_cases c29 : t456 = true
                          · subst c29
                            have H1 : (if t452 = (t438.length : Int) then (if 0 ≤ (l0.length : Int) then (if (l0.length : Int) ≤ (t438.length : Int) then ((slotmeshref04_Same.f kj16 (t438.take ((l0.length : Int) : Int).toNat) l0).bind fun t461 => ((wire_Bytes.f kj16 l0 a3).bind fun bt462 => (if bt462.2.2 = 0 then (if a3 < 0 then (slotmeshlaw04_WireBytes.j2 kj16 l0 a3 t461 bt462.1 bt462.2.1 true) else (if bt462.2.1 ≤ a3 then (slotmeshlaw04_WireBytes.j2 kj16 l0 a3 t461 bt462.1 bt462.2.1 true) else (slotmeshlaw04_WireBytes.j2 kj16 l0 a3 t461 bt462.1 bt462.2.1 (decide (bt462.2.1 > (l0.length : Int)))))) else (some t461)))) else (none)) else (none)) else (none)) = some r := by rw [if_pos rfl] at H; exact H
                            clear H
                            have H := H1
                            clear H1
                            by_cases c30 : t452 = (t438.length : Int)
                            · rw [if_pos c30] at H
                              have c30b0 : (t452 == (t438.length : Int)) = true := beq_iff_eq.mpr c30
                              have c30b1 : (t452 != (t438.length : Int)) = false := bne_eq_false_iff_eq.mpr c30
                              clear c30
                              by_cases c31 : 0 ≤ (l0.length : Int)
                              · rw [if_pos c31] at H
                                have c31b0 := eq_true c31
                                have c31b1 : decide (0 ≤ (l0.length : Int)) = true := decide_eq_true c31
                                clear c31
                                by_cases c32 : (l0.length : Int) ≤ (t438.length : Int)
                                · rw [if_pos c32] at H
                                  have c32b0 := eq_true c32
                                  have c32b1 : decide ((l0.length : Int) ≤ (t438.length : Int)) = true := decide_eq_true c32
                                  clear c32
                                  obtain ⟨y457, hy457⟩ : ∃ y_ : List Int, y_ = (t438.take ((l0.length : Int) : Int).toNat) := ⟨_, rfl⟩
                                  replace H : ((slotmeshref04_Same.f kj16 y457 l0).bind fun t461 => ((wire_Bytes.f kj16 l0 a3).bind fun bt462 => (if bt462.2.2 = 0 then (if a3 < 0 then (slotmeshlaw04_WireBytes.j2 kj16 l0 a3 t461 bt462.1 bt462.2.1 true) else (if bt462.2.1 ≤ a3 then (slotmeshlaw04_WireBytes.j2 kj16 l0 a3 t461 bt462.1 bt462.2.1 true) else (slotmeshlaw04_WireBytes.j2 kj16 l0 a3 t461 bt462.1 bt462.2.1 (decide (bt462.2.1 > (l0.length : Int)))))) else (some t461)))) = some r := by first | (rw [hy457]; with_reducible exact H) | (have H2_ := (Option.bind_some _ _).symm.trans H; rw [hy457]; with_reducible exact H2_) | (have H2_ := (Option.bind_some _ _).symm.trans H; with_reducible exact H2_) | with_reducible exact H | (rw [hy457]; exact H) | exact H
                                  have Ny457 := Aside0.mk hy457
                                  clear hy457
                                  replace H := Option.bind_eq_some_iff.mp H
                                  obtain ⟨t461, A330, H⟩ := H
                                  replace H : ((wire_Bytes.f kj16 l0 a3).bind fun bt462 => (if bt462.2.2 = 0 then (if a3 < 0 then (slotmeshlaw04_WireBytes.j2 kj16 l0 a3 t461 bt462.1 bt462.2.1 true) else (if bt462.2.1 ≤ a3 then (slotmeshlaw04_WireBytes.j2 kj16 l0 a3 t461 bt462.1 bt462.2.1 true) else (slotmeshlaw04_WireBytes.j2 kj16 l0 a3 t461 bt462.1 bt462.2.1 (decide (bt462.2.1 > (l0.length : Int)))))) else (some t461))) = some r := H
                                  have A33 := Aside0.mk A330
                                  clear A330
                                  replace H := Option.bind_eq_some_iff.mp H
                                  obtain ⟨⟨t462, t463, t464⟩, A340, H⟩ := H
                                  replace H : (if t464 = 0 then (if a3 < 0 then (slotmeshlaw04_WireBytes.j2 kj16 l0 a3 t461 t462 t463 true) else (if t463 ≤ a3 then (slotmeshlaw04_WireBytes.j2 kj16 l0 a3 t461 t462 t463 true) else (slotmeshlaw04_WireBytes.j2 kj16 l0 a3 t461 t462 t463 (decide (t463 > (l0.length : Int)))))) else (some t461)) = some r := H
                                  have A34 := Aside0.mk A340
                                  clear A340
                                  by_cases c35 : t464 = 0
                                  · rw [if_pos c35] at H
                                    have c35b0 : (t464 == 0) = true := beq_iff_eq.mpr c35
                                    have c35b1 : (t464 != 0) = false := bne_eq_false_iff_eq.mpr c35
                                    clear c35
                                    have HC36 := Aside0.mk H
                                    clear H
                                    go_upto_region 15 with (first | ((with_reducible refine gate_dst (N := 62) rfl ?_); (try (refine gate_guard (by rfl) ?_; dsimp only)); refine Kd.R_make0 30000 (Kd.int .u8) _ 5 rfl (N := 62) rfl 22 _ _ rfl 0 rfl rfl Try.underlying22 (.int .u8 0) 1 info5 rfl (by decide) (by omega) 0 (ok := fun _ => True) (okp := fun _ => True) rfl (fun _ hk => hk) trivial rfl (by omega) (Below.refl _ _) (Nat.le_refl _) ?_; intro v443 w37 ho38 hb hg_ hnew_; clear hg_ hnew_; (first | rw [← Ny442.out] at ho38 | (simp only [Int.reduceToNat] at ho38; rw [← Ny442.out] at ho38)); have n0_ := Aside0.mk (Kd.R_elder' (by (with_reducible repeat (first | apply Kd.R_alloc | apply Kd.R_drewN | apply Kd.R_drew)); exact HO_11.out) (Kd.R_base ho38) hb); have n1_ := Aside0.mk (Kd.R_lower (Kd.R_new' ho38 (Kd.R_lt (by (with_reducible repeat (first | apply Kd.R_alloc | apply Kd.R_drewN | apply Kd.R_drew)); exact HO_11.out))) (below_size (by repeat (first | (with_reducible first | exact HB.out | apply below_alloc | apply pw_below_drewN | apply below_drew1) | exact HB.out)))); have n2_ := Aside0.mk (below_step (by repeat (first | (with_reducible first | exact HB.out | apply below_alloc | apply pw_below_drewN | apply below_drew1) | exact HB.out)) hb); clear HO_11; clear HB; have HO_11 := n0_; have HO444 := n1_; have HB := n2_; clear n0_ n1_ n2_; clear hb ho38; obtain ⟨Ao40, co40, eo40⟩ := Kd.R_slice HO_11.out; subst eo40) | ((with_reducible refine gate_builtin (b := .append) (xs := #[.tmp 62, .tmp 63]) rfl ?_); (try (refine gate_guard (by rfl) ?_; dsimp only)); at_builtin; refine Kd.R_append_rows (Kd.int .u8) (w0 := w) w.heap.size rfl (.tmp 62) (.tmp 63) 22 5 (.int .u8 0) 1 rfl Try.underlying22 info5 rfl (by decide) (by omega) v443 y442 t438 _ _ _ (fun k_ => some k_ ≠ (.slice Ao40 t438.length co40 : Value).ownBlock) (fun _ => False) rfl rfl ?aO ?aR (fun _ _ h => h) (fun _ h => h.elim) ?aF ?aB ?aS ?aL ?_; (case aR => repeat (first | exact (Kd.R_reads' HO_11.out).2.2 | (with_reducible refine Kd.C_alloc ?_ _) | (with_reducible refine Kd.C_drewN ?_ _) | (with_reducible refine Kd.C_drew ?_))); (case aB => exact (by repeat (first | (with_reducible first | exact HB.out | apply below_alloc | apply pw_below_drewN | apply below_drew1) | exact HB.out))); (case aF => exact (fun k_ hk => Kd.fresh' (Kd.R_lt (by (with_reducible repeat (first | apply Kd.R_alloc | apply Kd.R_drewN | apply Kd.R_drew)); exact HO_11.out)) k_ hk)); (case aO => exact (by (with_reducible repeat (first | apply Kd.R_alloc | apply Kd.R_drewN | apply Kd.R_drew)); exact Kd.R_mono HO444.out (fun _ hk => hk.2))); (case aS => exact (below_size (by repeat (first | (with_reducible first | exact HB.out | apply below_alloc | apply pw_below_drewN | apply below_drew1) | exact HB.out)))); (case aL => have := LMc23.out; omega); intro v446 w39 ho hb hg hat; rw [← Ny445.out] at ho; have n0_ := Aside0.mk (Kd.R_after (ok := (fun _ => True)) (by (with_reducible repeat (first | apply Kd.R_alloc | apply Kd.R_drewN | apply Kd.R_drew)); exact HO_11.out) hg hat); have n1_ := Aside0.mk (hb); have n2_ := Aside0.mk (ho); clear HO_11; clear HB; clear HO444; have HO_11 := n0_; have HB := n1_; have HO447 := n2_; clear n0_ n1_ n2_; clear ho hb hg hat) | ((with_reducible refine gate_builtin (b := .append) (xs := #[.tmp 64, .tmp 65]) rfl ?_); (try (refine gate_guard (by rfl) ?_; dsimp only)); at_builtin; refine Kd.R_append_rows (Kd.int .u8) (w0 := w) w.heap.size rfl (.tmp 64) (.tmp 65) 22 5 (.int .u8 0) 1 rfl Try.underlying22 info5 rfl (by decide) (by omega) v446 y445 l2 _ _ _ (fun k_ => some k_ ≠ (.slice Ao40 t438.length co40 : Value).ownBlock) (fun _ => False) rfl rfl ?aO ?aR (fun _ _ h => h) (fun _ h => h.elim) ?aF ?aB ?aS ?aL ?_; (case aR => repeat (first | exact (Kd.C_below HR2.out HB.out) | (with_reducible refine Kd.C_alloc ?_ _) | (with_reducible refine Kd.C_drewN ?_ _) | (with_reducible refine Kd.C_drew ?_))); (case aB => exact (by repeat (first | (with_reducible first | exact HB.out | apply below_alloc | apply pw_below_drewN | apply below_drew1) | exact HB.out))); (case aF => exact (fun k_ hk => Kd.fresh' (Kd.R_lt (by (with_reducible repeat (first | apply Kd.R_alloc | apply Kd.R_drewN | apply Kd.R_drew)); exact HO_11.out)) k_ hk)); (case aO => exact (by (with_reducible repeat (first | apply Kd.R_alloc | apply Kd.R_drewN | apply Kd.R_drew)); exact HO447.out)); (case aS => exact (below_size (by repeat (first | (with_reducible first | exact HB.out | apply below_alloc | apply pw_below_drewN | apply below_drew1) | exact HB.out)))); (case aL => have := LMc24.out; omega); intro v449 w41 ho hb hg hat; rw [← Ny448.out] at ho; have n0_ := Aside0.mk (Kd.R_after (ok := (fun _ => True)) (by (with_reducible repeat (first | apply Kd.R_alloc | apply Kd.R_drewN | apply Kd.R_drew)); exact HO_11.out) hg hat); have n1_ := Aside0.mk (hb); have n2_ := Aside0.mk (ho); clear HO_11; clear HB; clear HO447; have HO_11 := n0_; have HB := n1_; have HO450 := n2_; clear n0_ n1_ n2_; clear ho hb hg hat; obtain ⟨Ao42, co42, eo42⟩ := Kd.R_slice HO450.out; subst eo42) | ((with_reducible refine gate_callee (f := 26) rfl ?_); refine goesL_ (some 69) rfl rfl Try.func26 (by kernel_rfl) rfl #[.slice Ao42 y448.length co42, .int .i64 (l0.length : Int)] rfl (by (try simp only [List.map_toArray, List.map_cons, List.map_nil]); first | done | rfl | (simp only [List.length_drop, List.length_take]; rfl)) ?_; (with_reducible refine (wire_Bytes.calls kj16 _ _ y448 (l0.length : Int) t451 t452 t453 _ ?side1 ?side2 A25.out).mono ?_); (case side1 => repeat (first | exact (Kd.R_reads' HO450.out).2.2 | (with_reducible refine Kd.C_alloc ?_ _) | (with_reducible refine Kd.C_drewN ?_ _) | (with_reducible refine Kd.C_drew ?_))); (case side2 => exact (Kd.R_reads' HO450.out).2.1); rintro e w43 ⟨v454, rfl, ho0, hb⟩; refine ⟨_, rfl, ?_⟩; have n0_ := Aside0.mk (Kd.R_elder' (by (with_reducible repeat (first | apply Kd.R_alloc | apply Kd.R_drewN | apply Kd.R_drew)); exact HO_11.out) (Kd.R_base ho0) hb); have n1_ := Aside0.mk (Kd.R_elder' (by (with_reducible repeat (first | apply Kd.R_alloc | apply Kd.R_drewN | apply Kd.R_drew)); exact HO450.out) (Kd.R_base ho0) hb); have n2_ := Aside0.mk (Kd.R_lower (Kd.R_new' (Kd.R_new' ho0 (Kd.R_lt (by (with_reducible repeat (first | apply Kd.R_alloc | apply Kd.R_drewN | apply Kd.R_drew)); exact HO_11.out))) (Kd.R_lt (by (with_reducible repeat (first | apply Kd.R_alloc | apply Kd.R_drewN | apply Kd.R_drew)); exact HO450.out))) (below_size (by repeat (first | (with_reducible first | exact HB.out | apply below_alloc | apply pw_below_drewN | apply below_drew1) | exact HB.out)))); have n3_ := Aside0.mk (below_step (by repeat (first | (with_reducible first | exact HB.out | apply below_alloc | apply pw_below_drewN | apply below_drew1) | exact HB.out)) hb); clear HO_11; clear HO450; clear HB; have HO_11 := n0_; have HO450 := n1_; have HO455 := n2_; have HB := n3_; clear n0_ n1_ n2_ n3_; (try clear hb); (try clear hb2); (try clear hk); (try clear hi); (try clear ho0); obtain ⟨Ao44, co44, eo44⟩ := Kd.R_slice HO455.out; subst eo44) | (go_at_call 21; (with_reducible refine (slotmeshref04_Same.calls kj16 _ _ l1 _ _ t451 true _ ?side1 ?side2 ?side3 ?side4 A28.out).mono ?_); (case side1 => repeat (first | exact (Kd.C_below HR1.out HB.out) | (with_reducible refine Kd.C_alloc ?_ _) | (with_reducible refine Kd.C_drewN ?_ _) | (with_reducible refine Kd.C_drew ?_))); (case side2 => exact HC1.out); (case side3 => repeat (first | exact (Kd.R_reads' HO455.out).2.2 | (with_reducible refine Kd.C_alloc ?_ _) | (with_reducible refine Kd.C_drewN ?_ _) | (with_reducible refine Kd.C_drew ?_))); (case side4 => exact (Kd.R_reads' HO455.out).2.1); rintro e w' ⟨rfl, ⟨nd, rfl⟩⟩; have q45 : ((l0.length : Int) : Int) ≤ ((t438.length : Int) : Int) := of_decide_eq_true (by first | (with_reducible assumption) | assumption); obtain ⟨i045, hi045, _, hsz45, _⟩ := info_parts info5; have hroom45 : t438.length ≤ co40 := (Kd.R_reads' HO_11.out).2.1; have hC45 : Kd.C (Kd.int .u8) _ Ao40 t438.length t438 := (Kd.R_reads' HO_11.out).2.2; have hcut45 := cut_to (P := Try.prog) 22 5 .i64 Try.underlying22 hi045 Ao40 t438.length co40 (l0.length : Int) (of_decide_eq_true (by first | (with_reducible assumption) | assumption)) q45 hroom45; have hr45 := Kd.C_take (m := ((l0.length : Int) : Int).toNat) hC45 (by omega); have hy45 : y457.length = ((l0.length : Int) : Int).toNat := (by rw [Ny457.out, List.length_take]; omega); rw [← Ny457.out] at hr45; rw [← hy45] at hcut45; have HR460 := Aside0.mk hr45; have HC460 := Aside0.mk (show y457.length ≤ co40 from by omega); clear hr45 hC45 hroom45 hi045 hsz45; have KY45 := Aside0.mk hy45; clear hy45; have KL45 := Aside0.mk (show ((l0.length : Int) : Int).toNat ≤ t438.length from by omega); replace q45 := eq_true q45) | (go_at_call 21; (with_reducible refine (slotmeshref04_Same.calls kj16 _ _ y457 _ _ l0 t461 _ ?side1 ?side2 ?side3 ?side4 A33.out).mono ?_); (case side1 => repeat (first | exact (by repeat (first | (with_reducible exact HR460.out) | (with_reducible refine Kd.C_alloc ?_ _) | (with_reducible refine Kd.C_drewN ?_ _) | (with_reducible refine Kd.C_drew ?_) | exact HR460.out)) | (with_reducible refine Kd.C_alloc ?_ _) | (with_reducible refine Kd.C_drewN ?_ _) | (with_reducible refine Kd.C_drew ?_))); (case side2 => exact HC460.out); (case side3 => repeat (first | exact (Kd.C_below HR0.out (by repeat (first | (with_reducible first | exact HB.out | apply below_alloc | apply pw_below_drewN | apply below_drew1) | exact HB.out))) | (with_reducible refine Kd.C_alloc ?_ _) | (with_reducible refine Kd.C_drewN ?_ _) | (with_reducible refine Kd.C_drew ?_))); (case side4 => exact HC0.out); rintro e w' ⟨rfl, ⟨nd, rfl⟩⟩) | ((with_reducible refine gate_callee (f := 26) rfl ?_); refine goesL_ (some 100) rfl rfl Try.func26 (by kernel_rfl) rfl #[.slice A0 l0.length c0, .int .i64 a3] rfl (by (try simp only [List.map_toArray, List.map_cons, List.map_nil]); first | done | rfl | (simp only [List.length_drop, List.length_take]; rfl)) ?_; (with_reducible refine (wire_Bytes.calls kj16 _ _ l0 a3 t462 t463 t464 _ ?side1 ?side2 A34.out).mono ?_); (case side1 => repeat (first | exact (Kd.C_below HR0.out (by repeat (first | (with_reducible first | exact HB.out | apply below_alloc | apply pw_below_drewN | apply below_drew1) | exact HB.out))) | (with_reducible refine Kd.C_alloc ?_ _) | (with_reducible refine Kd.C_drewN ?_ _) | (with_reducible refine Kd.C_drew ?_))); (case side2 => exact HC0.out); rintro e w46 ⟨v465, rfl, ho0, hb⟩; refine ⟨_, rfl, ?_⟩; have n0_ := Aside0.mk (Kd.R_elder' (by (with_reducible repeat (first | apply Kd.R_alloc | apply Kd.R_drewN | apply Kd.R_drew)); exact HO_11.out) (Kd.R_base ho0) hb); have n1_ := Aside0.mk (Kd.R_elder' (by (with_reducible repeat (first | apply Kd.R_alloc | apply Kd.R_drewN | apply Kd.R_drew)); exact HO450.out) (Kd.R_base ho0) hb); have n2_ := Aside0.mk (Kd.R_elder' (by (with_reducible repeat (first | apply Kd.R_alloc | apply Kd.R_drewN | apply Kd.R_drew)); exact HO455.out) (Kd.R_base ho0) hb); have n3_ := Aside0.mk (Kd.R_lower (Kd.R_new' (Kd.R_new' (Kd.R_new' ho0 (Kd.R_lt (by (with_reducible repeat (first | apply Kd.R_alloc | apply Kd.R_drewN | apply Kd.R_drew)); exact HO_11.out))) (Kd.R_lt (by (with_reducible repeat (first | apply Kd.R_alloc | apply Kd.R_drewN | apply Kd.R_drew)); exact HO450.out))) (Kd.R_lt (by (with_reducible repeat (first | apply Kd.R_alloc | apply Kd.R_drewN | apply Kd.R_drew)); exact HO455.out))) (below_size (by repeat (first | (with_reducible first | exact HB.out | apply below_alloc | apply pw_below_drewN | apply below_drew1) | exact HB.out)))); have n4_ := Aside0.mk (Kd.C_below (by repeat (first | (with_reducible exact HR460.out) | (with_reducible refine Kd.C_alloc ?_ _) | (with_reducible refine Kd.C_drewN ?_ _) | (with_reducible refine Kd.C_drew ?_) | exact HR460.out)) hb); have n5_ := Aside0.mk (below_step (by repeat (first | (with_reducible first | exact HB.out | apply below_alloc | apply pw_below_drewN | apply below_drew1) | exact HB.out)) hb); clear HO_11; clear HO450; clear HO455; clear HR460; clear HB; have HO_11 := n0_; have HO450 := n1_; have HO455 := n2_; have HO466 := n3_; have HR460 := n4_; have HB := n5_; clear n0_ n1_ n2_ n3_ n4_ n5_; (try clear hb); (try clear hb2); (try clear hk); (try clear hi); (try clear ho0)))
                                    (try simp only [Act.put, List.setIfInBounds_toArray, List.set_cons_zero, List.set_cons_succ])
                                    go_cut [119] (fun v119 wc => ∃ (kq : Nat) (x119_35 : Bool), v119 = .bool x119_35 ∧ Aside0 (slotmeshlaw04_WireBytes.j2 kq l0 a3 t461 t462 t463 x119_35 = some r) ∧ Aside0 (kq ≤ kj16) ∧ Aside0 (Kd.R (Kd.int .u8) 5 wc w.heap.size (fun _ => True) v465 t462) ∧ Aside0 (Kd.C (Kd.int .u8) wc Ao40 y457.length y457) ∧ Aside0 (Below w.heap.size w wc))
                                    case first =>
                                      have H := HC36.out
                                      clear HC36
                                      by_cases c47 : a3 < 0
                                      · rw [if_pos c47] at H
                                        have c47b0 : decide (a3 < 0) = true := decide_eq_true c47
                                        clear c47
                                        (first | rw [c47b0] | (simp only [i64_w, i32_w]; rw [c47b0]) | skip)
                                        have H' := Aside0.mk H
                                        clear H
                                        go_wp2
                                        go_meet
                                        case rel => exact ⟨_, (true), (by first | rfl | (simp; done) | (simp [*]; done)), H', ⟨by have := HJ6.out; have := HJ16.out; first | omega | exact Nat.le_refl _⟩, ⟨by (with_reducible repeat (first | apply Kd.R_alloc | apply Kd.R_drewN | apply Kd.R_drew)); exact Kd.R_mono HO466.out (fun _ hk => trivial)⟩, ⟨by repeat (first | (with_reducible exact HR460.out) | (with_reducible refine Kd.C_alloc ?_ _) | (with_reducible refine Kd.C_drewN ?_ _) | (with_reducible refine Kd.C_drew ?_) | exact HR460.out)⟩, ⟨by repeat (first | (with_reducible first | exact HB.out | apply below_alloc | apply pw_below_drewN | apply below_drew1) | exact HB.out)⟩⟩
                                      · rw [if_neg c47] at H
                                        have c47b0 : decide (a3 < 0) = false := decide_eq_false c47
                                        clear c47
                                        (first | rw [c47b0] | (simp only [i64_w, i32_w]; rw [c47b0]) | skip)
                                        by_cases c48 : t463 ≤ a3
                                        · rw [if_pos c48] at H
                                          have c48b0 : decide (t463 ≤ a3) = true := decide_eq_true c48
                                          clear c48
                                          have H' := Aside0.mk H
                                          clear H
                                          go_wp2
                                          go_meet
                                          case rel => exact ⟨_, (true), (by first | rfl | (simp; done) | (simp [*]; done)), H', ⟨by have := HJ6.out; have := HJ16.out; first | omega | exact Nat.le_refl _⟩, ⟨by (with_reducible repeat (first | apply Kd.R_alloc | apply Kd.R_drewN | apply Kd.R_drew)); exact Kd.R_mono HO466.out (fun _ hk => trivial)⟩, ⟨by repeat (first | (with_reducible exact HR460.out) | (with_reducible refine Kd.C_alloc ?_ _) | (with_reducible refine Kd.C_drewN ?_ _) | (with_reducible refine Kd.C_drew ?_) | exact HR460.out)⟩, ⟨by repeat (first | (with_reducible first | exact HB.out | apply below_alloc | apply pw_below_drewN | apply below_drew1) | exact HB.out)⟩⟩
                                        · rw [if_neg c48] at H
                                          have c48b0 : decide (t463 ≤ a3) = false := decide_eq_false c48
                                          clear c48
                                          have H' := Aside0.mk H
                                          clear H
                                          go_wp2
                                          go_meet
                                          case rel => exact ⟨_, (decide (t463 > (l0.length : Int))), (by first | rfl | (simp; done) | (simp [*]; done)), H', ⟨by have := HJ6.out; have := HJ16.out; first | omega | exact Nat.le_refl _⟩, ⟨by (with_reducible repeat (first | apply Kd.R_alloc | apply Kd.R_drewN | apply Kd.R_drew)); exact Kd.R_mono HO466.out (fun _ hk => trivial)⟩, ⟨by repeat (first | (with_reducible exact HR460.out) | (with_reducible refine Kd.C_alloc ?_ _) | (with_reducible refine Kd.C_drewN ?_ _) | (with_reducible refine Kd.C_drew ?_) | exact HR460.out)⟩, ⟨by repeat (first | (with_reducible first | exact HB.out | apply below_alloc | apply pw_below_drewN | apply below_drew1) | exact HB.out)⟩⟩
                                    case rest =>
                                      clear HC36
                                      try clear c1
                                      try clear c2
                                      try clear p2
                                      try clear c3
                                      try clear c4
                                      try clear q4
                                      try clear c5
                                      try clear c9
                                      try clear c10
                                      try clear c12
                                      try clear c12b0
                                      try clear c12b1
                                      try clear c13
                                      try clear c14
                                      try clear c14b0
                                      try clear c14b1
                                      try clear c17
                                      try clear c18
                                      try clear c19
                                      try clear c19b0
                                      try clear c19b1
                                      try clear c21
                                      try clear c22
                                      try clear c22b0
                                      try clear c22b1
                                      try clear c23
                                      try clear c24
                                      try clear c26
                                      try clear c27
                                      try clear c27b0
                                      try clear c27b1
                                      try clear c29
                                      try clear c30
                                      try clear c30b0
                                      try clear c30b1
                                      try clear c31
                                      try clear c31b0
                                      try clear c31b1
                                      try clear c32
                                      try clear c32b0
                                      try clear c32b1
                                      try clear c35
                                      try clear c35b0
                                      try clear c35b1
                                      try clear q45
                                      try clear c47
                                      try clear c47b0
                                      try clear c48
                                      try clear c48b0
                                      try clear p2
                                      try clear q45
                                      obtain ⟨kq, x119_35, rfl, HA, HJ35, HO_16, HR460, HB⟩ := hcut
                                      cases kq with
                                      | zero => exact absurd HA.out (by simp [slotmeshlaw04_WireBytes.j2])
                                      | succ kj35 =>
                                        have H := HA.out
                                        clear HA
                                        simp only [slotmeshlaw04_WireBytes.j2] at H
                                        by_cases c49 : x119_35 = true
                                        · subst c49
                                          have H1 : (some false) = some r := by rw [if_pos rfl] at H; exact H
                                          clear H
                                          have H := H1
                                          clear H1
                                          obtain rfl := Option.some.inj H
                                          go_wp2
                                          go_ret
                                          exact ⟨by first | rfl | (simp [errW_none, errW_some] <;> rfl) | (simp [*, errW_none, errW_some] <;> rfl), by repeat (first | (with_reducible first | exact HB.out | apply below_alloc | apply pw_below_drewN | apply below_drew1) | exact HB.out)⟩
                                        · replace c49 := Bool.eq_false_iff.mpr c49
                                          subst c49
                                          have H1 : ((wire_PutBytes.f kj35 ([] : List Int) t462).bind fun bt467 => (if t461 = true then (if bt467.2 = 0 then (if 0 ≤ a3 then (if a3 ≤ t463 then (if t463 ≤ (l0.length : Int) then ((slotmeshref04_Same.f kj35 bt467.1 ((l0.take (t463 : Int).toNat).drop (a3 : Int).toNat)).bind fun t472 => (some t472)) else (none)) else (none)) else (none)) else (none)) else (none))) = some r := by rw [if_neg (show ¬ (false = true) by decide)] at H; exact H
                                          clear H
                                          have H := H1
                                          clear H1
                                          replace H := Option.bind_eq_some_iff.mp H
                                          obtain ⟨⟨t467, t468⟩, A500, H⟩ := H
                                          replace H : (if t461 = true then (if t468 = 0 then (if 0 ≤ a3 then (if a3 ≤ t463 then (if t463 ≤ (l0.length : Int) then ((slotmeshref04_Same.f kj35 t467 ((l0.take (t463 : Int).toNat).drop (a3 : Int).toNat)).bind fun t472 => (some t472)) else (none)) else (none)) else (none)) else (none)) else (none)) = some r := H
                                          have A50 := Aside0.mk A500
                                          clear A500
                                          by_cases c51 : t461 = true
                                          · subst c51
                                            have H1 : (if t468 = 0 then (if 0 ≤ a3 then (if a3 ≤ t463 then (if t463 ≤ (l0.length : Int) then ((slotmeshref04_Same.f kj35 t467 ((l0.take (t463 : Int).toNat).drop (a3 : Int).toNat)).bind fun t472 => (some t472)) else (none)) else (none)) else (none)) else (none)) = some r := by rw [if_pos rfl] at H; exact H
                                            clear H
                                            have H := H1
                                            clear H1
                                            by_cases c52 : t468 = 0
                                            · rw [if_pos c52] at H
                                              have c52b0 : (t468 == 0) = true := beq_iff_eq.mpr c52
                                              have c52b1 : (t468 != 0) = false := bne_eq_false_iff_eq.mpr c52
                                              clear c52
                                              by_cases c53 : 0 ≤ a3
                                              · rw [if_pos c53] at H
                                                have c53b0 := eq_true c53
                                                have c53b1 : decide (0 ≤ a3) = true := decide_eq_true c53
                                                clear c53
                                                by_cases c54 : a3 ≤ t463
                                                · rw [if_pos c54] at H
                                                  have c54b0 := eq_true c54
                                                  have c54b1 : decide (a3 ≤ t463) = true := decide_eq_true c54
                                                  clear c54
                                                  by_cases c55 : t463 ≤ (l0.length : Int)
                                                  · rw [if_pos c55] at H
                                                    have c55b0 := eq_true c55
                                                    have c55b1 : decide (t463 ≤ (l0.length : Int)) = true := decide_eq_true c55
                                                    clear c55
                                                    replace H := Option.bind_eq_some_iff.mp H
                                                    obtain ⟨t472, A560, H⟩ := H
                                                    replace H : (some t472) = some r := H
                                                    have A56 := Aside0.mk A560
                                                    clear A560
                                                    obtain rfl := Option.some.inj H
                                                    obtain ⟨Ao57, co57, eo57⟩ := Kd.R_slice HO_16.out
                                                    subst eo57
                                                    go_wp2_with (first | ((with_reducible refine gate_callee (f := 24) rfl ?_); refine goesL_ (some 122) rfl rfl Try.func24 (by kernel_rfl) rfl #[.slice none 0 0, .slice Ao57 t462.length co57] rfl (by (try simp only [List.map_toArray, List.map_cons, List.map_nil]); first | done | rfl | (simp only [List.length_drop, List.length_take]; rfl)) ?_; (refine (wire_PutBytes.calls kj35 _ _ ([] : List Int) _ _ t462 t467 t468 _ ?side1 ?side2 ?side3 ?side4 A50.out).mono ?_); (case side1 => exact Kd.C_nil _ _); (case side2 => exact Nat.le_refl _); (case side3 => repeat (first | exact (Kd.R_reads' HO_16.out).2.2 | (with_reducible refine Kd.C_alloc ?_ _) | (with_reducible refine Kd.C_drewN ?_ _) | (with_reducible refine Kd.C_drew ?_))); (case side4 => exact (Kd.R_reads' HO_16.out).2.1); rintro e w58 ⟨v469, rfl, ho0, hb⟩; refine ⟨_, rfl, ?_⟩; have n0_ := Aside0.mk (Kd.R_elder' (by (with_reducible repeat (first | apply Kd.R_alloc | apply Kd.R_drewN | apply Kd.R_drew)); exact HO_16.out) (Kd.R_base ho0) hb); have n1_ := Aside0.mk (Kd.R_lower (Kd.R_new' ho0 (Kd.R_lt (by (with_reducible repeat (first | apply Kd.R_alloc | apply Kd.R_drewN | apply Kd.R_drew)); exact HO_16.out))) (below_size (by repeat (first | (with_reducible first | exact HB.out | apply below_alloc | apply pw_below_drewN | apply below_drew1) | exact HB.out)))); have n2_ := Aside0.mk (Kd.C_below (by repeat (first | (with_reducible exact HR460.out) | (with_reducible refine Kd.C_alloc ?_ _) | (with_reducible refine Kd.C_drewN ?_ _) | (with_reducible refine Kd.C_drew ?_) | exact HR460.out)) hb); have n3_ := Aside0.mk (below_step (by repeat (first | (with_reducible first | exact HB.out | apply below_alloc | apply pw_below_drewN | apply below_drew1) | exact HB.out)) hb); clear HO_16; clear HR460; clear HB; have HO_16 := n0_; have HO470 := n1_; have HR460 := n2_; have HB := n3_; clear n0_ n1_ n2_ n3_; (try clear hb); (try clear hb2); (try clear hk); (try clear hi); (try clear ho0); obtain ⟨i059, hi059, _, hsz59, _⟩ := info_parts info5; obtain ⟨A59, hcut59, hA59, hC59⟩ := print_mid_of (P := Try.prog) (Value.int .u8) 0 22 5 .i64 .i64 Try.underlying22 hi059 hsz59 A0 c0 l0 a3 t463 (of_decide_eq_true (by first | (with_reducible assumption) | assumption)) (by first | omega | exact of_decide_eq_true (by first | (with_reducible assumption) | assumption)) (of_decide_eq_true (by first | (with_reducible assumption) | assumption)) HC0.out; have HR471 := Aside0.mk (Kd.C_of_reads (h1 := fun _ => rfl) (hA59 _ (Kd.reads_of_C HR0.out))); have HC471 := Aside0.mk hC59; clear hA59 hC59 hi059 hsz59; obtain ⟨Ao60, co60, eo60⟩ := Kd.R_slice HO470.out; subst eo60) | (go_at_call 21; rw [show (t463 : Int).toNat - (a3 : Int).toNat = ((l0.take (t463 : Int).toNat).drop (a3 : Int).toNat).length from by have h1_ : t463 ≤ (l0.length : Int) := of_decide_eq_true (by first | (with_reducible assumption) | assumption); simp only [List.length_drop, List.length_take]; omega]; (with_reducible refine (slotmeshref04_Same.calls kj35 _ _ t467 _ _ ((l0.take (t463 : Int).toNat).drop (a3 : Int).toNat) t472 _ ?side1 ?side2 ?side3 ?side4 A56.out).mono ?_); (case side1 => repeat (first | exact (Kd.R_reads' HO470.out).2.2 | (with_reducible refine Kd.C_alloc ?_ _) | (with_reducible refine Kd.C_drewN ?_ _) | (with_reducible refine Kd.C_drew ?_))); (case side2 => exact (Kd.R_reads' HO470.out).2.1); (case side3 => repeat (first | exact (Kd.C_below HR471.out HB.out) | (with_reducible refine Kd.C_alloc ?_ _) | (with_reducible refine Kd.C_drewN ?_ _) | (with_reducible refine Kd.C_drew ?_))); (case side4 => exact HC471.out); rintro e w' ⟨rfl, ⟨nd, rfl⟩⟩))
                                                    go_ret
                                                    exact ⟨by first | rfl | (simp [errW_none, errW_some] <;> rfl) | (simp [*, errW_none, errW_some] <;> rfl), by repeat (first | (with_reducible first | exact HB.out | apply below_alloc | apply pw_below_drewN | apply below_drew1) | exact HB.out)⟩
                                                  · rw [if_neg c55] at H
                                                    exact absurd H (by simp)
                                                · rw [if_neg c54] at H
                                                  exact absurd H (by simp)
                                              · rw [if_neg c53] at H
                                                exact absurd H (by simp)
                                            · rw [if_neg c52] at H
                                              exact absurd H (by simp)
                                          · replace c51 := Bool.eq_false_iff.mpr c51
                                            subst c51
                                            have H1 : (none) = some r := by rw [if_neg (show ¬ (false = true) by decide)] at H; exact H
                                            clear H
                                            have H := H1
                                            clear H1
                                            exact absurd H (by simp)
                                  · rw [if_neg c35] at H
                                    have c35b0 : (t464 == 0) = false := beq_eq_false_iff_ne.mpr c35
                                    have c35b1 : (t464 != 0) = true := bne_iff_ne.mpr c35
                                    obtain rfl := Option.some.inj H
                                    go_wp2_with (first | ((with_reducible refine gate_dst (N := 62) rfl ?_); (try (refine gate_guard (by rfl) ?_; dsimp only)); refine Kd.R_make0 30000 (Kd.int .u8) _ 5 rfl (N := 62) rfl 22 _ _ rfl 0 rfl rfl Try.underlying22 (.int .u8 0) 1 info5 rfl (by decide) (by omega) 0 (ok := fun _ => True) (okp := fun _ => True) rfl (fun _ hk => hk) trivial rfl (by omega) (Below.refl _ _) (Nat.le_refl _) ?_; intro v443 w61 ho62 hb hg_ hnew_; clear hg_ hnew_; (first | rw [← Ny442.out] at ho62 | (simp only [Int.reduceToNat] at ho62; rw [← Ny442.out] at ho62)); have n0_ := Aside0.mk (Kd.R_elder' (by (with_reducible repeat (first | apply Kd.R_alloc | apply Kd.R_drewN | apply Kd.R_drew)); exact HO_11.out) (Kd.R_base ho62) hb); have n1_ := Aside0.mk (Kd.R_lower (Kd.R_new' ho62 (Kd.R_lt (by (with_reducible repeat (first | apply Kd.R_alloc | apply Kd.R_drewN | apply Kd.R_drew)); exact HO_11.out))) (below_size (by repeat (first | (with_reducible first | exact HB.out | apply below_alloc | apply pw_below_drewN | apply below_drew1) | exact HB.out)))); have n2_ := Aside0.mk (below_step (by repeat (first | (with_reducible first | exact HB.out | apply below_alloc | apply pw_below_drewN | apply below_drew1) | exact HB.out)) hb); clear HO_11; clear HB; have HO_11 := n0_; have HO444 := n1_; have HB := n2_; clear n0_ n1_ n2_; clear hb ho62; obtain ⟨Ao64, co64, eo64⟩ := Kd.R_slice HO_11.out; subst eo64) | ((with_reducible refine gate_builtin (b := .append) (xs := #[.tmp 62, .tmp 63]) rfl ?_); (try (refine gate_guard (by rfl) ?_; dsimp only)); at_builtin; refine Kd.R_append_rows (Kd.int .u8) (w0 := w) w.heap.size rfl (.tmp 62) (.tmp 63) 22 5 (.int .u8 0) 1 rfl Try.underlying22 info5 rfl (by decide) (by omega) v443 y442 t438 _ _ _ (fun k_ => some k_ ≠ (.slice Ao64 t438.length co64 : Value).ownBlock) (fun _ => False) rfl rfl ?aO ?aR (fun _ _ h => h) (fun _ h => h.elim) ?aF ?aB ?aS ?aL ?_; (case aR => repeat (first | exact (Kd.R_reads' HO_11.out).2.2 | (with_reducible refine Kd.C_alloc ?_ _) | (with_reducible refine Kd.C_drewN ?_ _) | (with_reducible refine Kd.C_drew ?_))); (case aB => exact (by repeat (first | (with_reducible first | exact HB.out | apply below_alloc | apply pw_below_drewN | apply below_drew1) | exact HB.out))); (case aF => exact (fun k_ hk => Kd.fresh' (Kd.R_lt (by (with_reducible repeat (first | apply Kd.R_alloc | apply Kd.R_drewN | apply Kd.R_drew)); exact HO_11.out)) k_ hk)); (case aO => exact (by (with_reducible repeat (first | apply Kd.R_alloc | apply Kd.R_drewN | apply Kd.R_drew)); exact Kd.R_mono HO444.out (fun _ hk => hk.2))); (case aS => exact (below_size (by repeat (first | (with_reducible first | exact HB.out | apply below_alloc | apply pw_below_drewN | apply below_drew1) | exact HB.out)))); (case aL => have := LMc23.out; omega); intro v446 w63 ho hb hg hat; rw [← Ny445.out] at ho; have n0_ := Aside0.mk (Kd.R_after (ok := (fun _ => True)) (by (with_reducible repeat (first | apply Kd.R_alloc | apply Kd.R_drewN | apply Kd.R_drew)); exact HO_11.out) hg hat); have n1_ := Aside0.mk (hb); have n2_ := Aside0.mk (ho); clear HO_11; clear HB; clear HO444; have HO_11 := n0_; have HB := n1_; have HO447 := n2_; clear n0_ n1_ n2_; clear ho hb hg hat) | ((with_reducible refine gate_builtin (b := .append) (xs := #[.tmp 64, .tmp 65]) rfl ?_); (try (refine gate_guard (by rfl) ?_; dsimp only)); at_builtin; refine Kd.R_append_rows (Kd.int .u8) (w0 := w) w.heap.size rfl (.tmp 64) (.tmp 65) 22 5 (.int .u8 0) 1 rfl Try.underlying22 info5 rfl (by decide) (by omega) v446 y445 l2 _ _ _ (fun k_ => some k_ ≠ (.slice Ao64 t438.length co64 : Value).ownBlock) (fun _ => False) rfl rfl ?aO ?aR (fun _ _ h => h) (fun _ h => h.elim) ?aF ?aB ?aS ?aL ?_; (case aR => repeat (first | exact (Kd.C_below HR2.out HB.out) | (with_reducible refine Kd.C_alloc ?_ _) | (with_reducible refine Kd.C_drewN ?_ _) | (with_reducible refine Kd.C_drew ?_))); (case aB => exact (by repeat (first | (with_reducible first | exact HB.out | apply below_alloc | apply pw_below_drewN | apply below_drew1) | exact HB.out))); (case aF => exact (fun k_ hk => Kd.fresh' (Kd.R_lt (by (with_reducible repeat (first | apply Kd.R_alloc | apply Kd.R_drewN | apply Kd.R_drew)); exact HO_11.out)) k_ hk)); (case aO => exact (by (with_reducible repeat (first | apply Kd.R_alloc | apply Kd.R_drewN | apply Kd.R_drew)); exact HO447.out)); (case aS => exact (below_size (by repeat (first | (with_reducible first | exact HB.out | apply below_alloc | apply pw_below_drewN | apply below_drew1) | exact HB.out)))); (case aL => have := LMc24.out; omega); intro v449 w65 ho hb hg hat; rw [← Ny448.out] at ho; have n0_ := Aside0.mk (Kd.R_after (ok := (fun _ => True)) (by (with_reducible repeat (first | apply Kd.R_alloc | apply Kd.R_drewN | apply Kd.R_drew)); exact HO_11.out) hg hat); have n1_ := Aside0.mk (hb); have n2_ := Aside0.mk (ho); clear HO_11; clear HB; clear HO447; have HO_11 := n0_; have HB := n1_; have HO450 := n2_; clear n0_ n1_ n2_; clear ho hb hg hat; obtain ⟨Ao66, co66, eo66⟩ := Kd.R_slice HO450.out; subst eo66) | ((with_reducible refine gate_callee (f := 26) rfl ?_); refine goesL_ (some 69) rfl rfl Try.func26 (by kernel_rfl) rfl #[.slice Ao66 y448.length co66, .int .i64 (l0.length : Int)] rfl (by (try simp only [List.map_toArray, List.map_cons, List.map_nil]); first | done | rfl | (simp only [List.length_drop, List.length_take]; rfl)) ?_; (with_reducible refine (wire_Bytes.calls kj16 _ _ y448 (l0.length : Int) t451 t452 t453 _ ?side1 ?side2 A25.out).mono ?_); (case side1 => repeat (first | exact (Kd.R_reads' HO450.out).2.2 | (with_reducible refine Kd.C_alloc ?_ _) | (with_reducible refine Kd.C_drewN ?_ _) | (with_reducible refine Kd.C_drew ?_))); (case side2 => exact (Kd.R_reads' HO450.out).2.1); rintro e w67 ⟨v454, rfl, ho0, hb⟩; refine ⟨_, rfl, ?_⟩; have n0_ := Aside0.mk (Kd.R_elder' (by (with_reducible repeat (first | apply Kd.R_alloc | apply Kd.R_drewN | apply Kd.R_drew)); exact HO_11.out) (Kd.R_base ho0) hb); have n1_ := Aside0.mk (Kd.R_elder' (by (with_reducible repeat (first | apply Kd.R_alloc | apply Kd.R_drewN | apply Kd.R_drew)); exact HO450.out) (Kd.R_base ho0) hb); have n2_ := Aside0.mk (Kd.R_lower (Kd.R_new' (Kd.R_new' ho0 (Kd.R_lt (by (with_reducible repeat (first | apply Kd.R_alloc | apply Kd.R_drewN | apply Kd.R_drew)); exact HO_11.out))) (Kd.R_lt (by (with_reducible repeat (first | apply Kd.R_alloc | apply Kd.R_drewN | apply Kd.R_drew)); exact HO450.out))) (below_size (by repeat (first | (with_reducible first | exact HB.out | apply below_alloc | apply pw_below_drewN | apply below_drew1) | exact HB.out)))); have n3_ := Aside0.mk (below_step (by repeat (first | (with_reducible first | exact HB.out | apply below_alloc | apply pw_below_drewN | apply below_drew1) | exact HB.out)) hb); clear HO_11; clear HO450; clear HB; have HO_11 := n0_; have HO450 := n1_; have HO455 := n2_; have HB := n3_; clear n0_ n1_ n2_ n3_; (try clear hb); (try clear hb2); (try clear hk); (try clear hi); (try clear ho0); obtain ⟨Ao68, co68, eo68⟩ := Kd.R_slice HO455.out; subst eo68) | (go_at_call 21; (with_reducible refine (slotmeshref04_Same.calls kj16 _ _ l1 _ _ t451 true _ ?side1 ?side2 ?side3 ?side4 A28.out).mono ?_); (case side1 => repeat (first | exact (Kd.C_below HR1.out HB.out) | (with_reducible refine Kd.C_alloc ?_ _) | (with_reducible refine Kd.C_drewN ?_ _) | (with_reducible refine Kd.C_drew ?_))); (case side2 => exact HC1.out); (case side3 => repeat (first | exact (Kd.R_reads' HO455.out).2.2 | (with_reducible refine Kd.C_alloc ?_ _) | (with_reducible refine Kd.C_drewN ?_ _) | (with_reducible refine Kd.C_drew ?_))); (case side4 => exact (Kd.R_reads' HO455.out).2.1); rintro e w' ⟨rfl, ⟨nd, rfl⟩⟩; have q69 : ((l0.length : Int) : Int) ≤ ((t438.length : Int) : Int) := of_decide_eq_true (by first | (with_reducible assumption) | assumption); obtain ⟨i069, hi069, _, hsz69, _⟩ := info_parts info5; have hroom69 : t438.length ≤ co64 := (Kd.R_reads' HO_11.out).2.1; have hC69 : Kd.C (Kd.int .u8) _ Ao64 t438.length t438 := (Kd.R_reads' HO_11.out).2.2; have hcut69 := cut_to (P := Try.prog) 22 5 .i64 Try.underlying22 hi069 Ao64 t438.length co64 (l0.length : Int) (of_decide_eq_true (by first | (with_reducible assumption) | assumption)) q69 hroom69; have hr69 := Kd.C_take (m := ((l0.length : Int) : Int).toNat) hC69 (by omega); have hy69 : y457.length = ((l0.length : Int) : Int).toNat := (by rw [Ny457.out, List.length_take]; omega); rw [← Ny457.out] at hr69; rw [← hy69] at hcut69; have HR460 := Aside0.mk hr69; have HC460 := Aside0.mk (show y457.length ≤ co64 from by omega); clear hr69 hC69 hroom69 hi069 hsz69; have KY69 := Aside0.mk hy69; clear hy69; have KL69 := Aside0.mk (show ((l0.length : Int) : Int).toNat ≤ t438.length from by omega); replace q69 := eq_true q69) | (go_at_call 21; (with_reducible refine (slotmeshref04_Same.calls kj16 _ _ y457 _ _ l0 t461 _ ?side1 ?side2 ?side3 ?side4 A33.out).mono ?_); (case side1 => repeat (first | exact (by repeat (first | (with_reducible exact HR460.out) | (with_reducible refine Kd.C_alloc ?_ _) | (with_reducible refine Kd.C_drewN ?_ _) | (with_reducible refine Kd.C_drew ?_) | exact HR460.out)) | (with_reducible refine Kd.C_alloc ?_ _) | (with_reducible refine Kd.C_drewN ?_ _) | (with_reducible refine Kd.C_drew ?_))); (case side2 => exact HC460.out); (case side3 => repeat (first | exact (Kd.C_below HR0.out (by repeat (first | (with_reducible first | exact HB.out | apply below_alloc | apply pw_below_drewN | apply below_drew1) | exact HB.out))) | (with_reducible refine Kd.C_alloc ?_ _) | (with_reducible refine Kd.C_drewN ?_ _) | (with_reducible refine Kd.C_drew ?_))); (case side4 => exact HC0.out); rintro e w' ⟨rfl, ⟨nd, rfl⟩⟩) | ((with_reducible refine gate_callee (f := 26) rfl ?_); refine goesL_ (some 100) rfl rfl Try.func26 (by kernel_rfl) rfl #[.slice A0 l0.length c0, .int .i64 a3] rfl (by (try simp only [List.map_toArray, List.map_cons, List.map_nil]); first | done | rfl | (simp only [List.length_drop, List.length_take]; rfl)) ?_; (with_reducible refine (wire_Bytes.calls kj16 _ _ l0 a3 t462 t463 t464 _ ?side1 ?side2 A34.out).mono ?_); (case side1 => repeat (first | exact (Kd.C_below HR0.out (by repeat (first | (with_reducible first | exact HB.out | apply below_alloc | apply pw_below_drewN | apply below_drew1) | exact HB.out))) | (with_reducible refine Kd.C_alloc ?_ _) | (with_reducible refine Kd.C_drewN ?_ _) | (with_reducible refine Kd.C_drew ?_))); (case side2 => exact HC0.out); rintro e w70 ⟨v465, rfl, ho0, hb⟩; refine ⟨_, rfl, ?_⟩; have n0_ := Aside0.mk (Kd.R_elder' (by (with_reducible repeat (first | apply Kd.R_alloc | apply Kd.R_drewN | apply Kd.R_drew)); exact HO_11.out) (Kd.R_base ho0) hb); have n1_ := Aside0.mk (Kd.R_elder' (by (with_reducible repeat (first | apply Kd.R_alloc | apply Kd.R_drewN | apply Kd.R_drew)); exact HO450.out) (Kd.R_base ho0) hb); have n2_ := Aside0.mk (Kd.R_elder' (by (with_reducible repeat (first | apply Kd.R_alloc | apply Kd.R_drewN | apply Kd.R_drew)); exact HO455.out) (Kd.R_base ho0) hb); have n3_ := Aside0.mk (Kd.R_lower (Kd.R_new' (Kd.R_new' (Kd.R_new' ho0 (Kd.R_lt (by (with_reducible repeat (first | apply Kd.R_alloc | apply Kd.R_drewN | apply Kd.R_drew)); exact HO_11.out))) (Kd.R_lt (by (with_reducible repeat (first | apply Kd.R_alloc | apply Kd.R_drewN | apply Kd.R_drew)); exact HO450.out))) (Kd.R_lt (by (with_reducible repeat (first | apply Kd.R_alloc | apply Kd.R_drewN | apply Kd.R_drew)); exact HO455.out))) (below_size (by repeat (first | (with_reducible first | exact HB.out | apply below_alloc | apply pw_below_drewN | apply below_drew1) | exact HB.out)))); have n4_ := Aside0.mk (Kd.C_below (by repeat (first | (with_reducible exact HR460.out) | (with_reducible refine Kd.C_alloc ?_ _) | (with_reducible refine Kd.C_drewN ?_ _) | (with_reducible refine Kd.C_drew ?_) | exact HR460.out)) hb); have n5_ := Aside0.mk (below_step (by repeat (first | (with_reducible first | exact HB.out | apply below_alloc | apply pw_below_drewN | apply below_drew1) | exact HB.out)) hb); clear HO_11; clear HO450; clear HO455; clear HR460; clear HB; have HO_11 := n0_; have HO450 := n1_; have HO455 := n2_; have HO466 := n3_; have HR460 := n4_; have HB := n5_; clear n0_ n1_ n2_ n3_ n4_ n5_; (try clear hb); (try clear hb2); (try clear hk); (try clear hi); (try clear ho0)))
                                    go_ret
                                    exact ⟨by first | rfl | (simp [errW_none, errW_some] <;> rfl) | (simp [*, errW_none, errW_some] <;> rfl), by repeat (first | (with_reducible first | exact HB.out | apply below_alloc | apply pw_below_drewN | apply below_drew1) | exact HB.out)⟩
                                · rw [if_neg c32] at H
                                  exact absurd H (by simp)
                              · rw [if_neg c31] at H
                                exact absurd H (by simp)
                            · rw [if_neg c30] at H
                              exact absurd H (by simp)
                          · replace c29 := Bool.eq_false_iff.mpr c29
                            subst c29
                            have H1 : (none) = some r := by rw [if_neg (show ¬ (false = true) by decide)] at H; exact H
                            clear H
                            have H := H1
                            clear H1
                            exact absurd H (by simp)
                        · rw [if_neg c27] at H
                          exact absurd H (by simp)
                      · replace c26 := Bool.eq_false_iff.mpr c26
                        subst c26
                        have H1 : (none) = some r := by rw [if_neg (show ¬ (false = true) by decide)] at H; exact H
                        clear H
                        have H := H1
                        clear H1
                        exact absurd H (by simp)
                    · rw [if_neg c24] at H
                      exact absurd H (by simp)
                  · rw [if_neg c23] at H
                    exact absurd H (by simp)
                · rw [if_neg c22] at H
                  exact absurd H (by simp)

/-- THE ONE PURE STATEMENT of slotmeshlaw04_WireBytes: yours. -/
def slotmeshlaw04_WireBytes.Pure : Prop := ∀ (l0 : List Int) (l1 : List Int) (l2 : List Int) (a3 : Int), l0.length ≤ maxLen → l0.length * 1 ≤ 140737488351232 → (∀ x ∈ l0, (Lit.int .u8 x).wf = true) → l1.length ≤ maxLen → l1.length * 1 ≤ 140737488351232 → (∀ x ∈ l1, (Lit.int .u8 x).wf = true) → l2.length ≤ maxLen → l2.length * 1 ≤ 140737488351232 → (∀ x ∈ l2, (Lit.int .u8 x).wf = true) → (Lit.int .i64 a3).wf = true → ∃ k, slotmeshlaw04_WireBytes.f k l0 l1 l2 a3 = some true
theorem slotmeshlaw04_WireBytes.walk (P : slotmeshlaw04_WireBytes.Pure) (a0 : Option Addr) (len0 cap0 : Nat) (z0 : List Int) (a1 : Option Addr) (len1 cap1 : Nat) (z1 : List Int) (a2 : Option Addr) (len2 cap2 : Nat) (z2 : List Int) (a3 : Int) (w : World) (w0 : (a0 = none ∧ len0 = 0 ∧ cap0 = 0 ∧ z0 = []) ∨ ∃ x, a0 = some x ∧ len0 ≤ cap0 ∧ cap0 ≤ maxLen ∧ z0.length = cap0 ∧ (∀ i, i < z0.length → w.cell? (x.add i) = some (.int .u8 (z0.getD i 0))) ∧ ∀ n ∈ z0, (Lit.int .u8 n).wf = true) (y0 : len0 * 1 ≤ 140737488351232) (w1 : (a1 = none ∧ len1 = 0 ∧ cap1 = 0 ∧ z1 = []) ∨ ∃ x, a1 = some x ∧ len1 ≤ cap1 ∧ cap1 ≤ maxLen ∧ z1.length = cap1 ∧ (∀ i, i < z1.length → w.cell? (x.add i) = some (.int .u8 (z1.getD i 0))) ∧ ∀ n ∈ z1, (Lit.int .u8 n).wf = true) (y1 : len1 * 1 ≤ 140737488351232) (w2 : (a2 = none ∧ len2 = 0 ∧ cap2 = 0 ∧ z2 = []) ∨ ∃ x, a2 = some x ∧ len2 ≤ cap2 ∧ cap2 ≤ maxLen ∧ z2.length = cap2 ∧ (∀ i, i < z2.length → w.cell? (x.add i) = some (.int .u8 (z2.getD i 0))) ∧ ∀ n ∈ z2, (Lit.int .u8 n).wf = true) (y2 : len2 * 1 ≤ 140737488351232) (w3 : (Lit.int .i64 a3).wf = true) :
    Calls Try.prog 5 #[.slice a0 len0 cap0, .slice a1 len1 cap1, .slice a2 len2 cap2, .int .i64 a3] w fun e w' => e = .returned (.bool true) ∧ Below w.heap.size w w' := by
  obtain ⟨l0, rfl, hr0, hm0, hw0, hc0⟩ := ReadsInt.ofRowC w0
  obtain ⟨l1, rfl, hr1, hm1, hw1, hc1⟩ := ReadsInt.ofRowC w1
  obtain ⟨l2, rfl, hr2, hm2, hw2, hc2⟩ := ReadsInt.ofRowC w2
  obtain ⟨k, h⟩ := P l0 l1 l2 a3 hm0 y0 hw0 hm1 y1 hw1 hm2 y2 hw2 w3
  refine (slotmeshlaw04_WireBytes.calls k _ _ l0 _ _ l1 _ _ l2 a3 true w (Kd.C_of_reads (d := (0 : Int)) (h1 := fun _ => rfl) hr0) hc0 (Kd.C_of_reads (d := (0 : Int)) (h1 := fun _ => rfl) hr1) hc1 (Kd.C_of_reads (d := (0 : Int)) (h1 := fun _ => rfl) hr2) hc2 h).mono ?_
  rintro e w' ⟨rfl, hd⟩
  exact ⟨rfl, hd⟩

end Go.Proofs.Ytanipbjbaalomaa.PWire
