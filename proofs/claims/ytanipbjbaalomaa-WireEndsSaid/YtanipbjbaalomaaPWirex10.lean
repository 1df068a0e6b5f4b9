-- A text of this claim, written by this session's program.
import Derived.Test.YtanipbjbaalomaaPWirex0
import Derived.Test.YtanipbjbaalomaaPWirex1
import Derived.Test.YtanipbjbaalomaaPWirex2
import Derived.Test.YtanipbjbaalomaaPWirex3
import Derived.Test.YtanipbjbaalomaaPWirex4
namespace Go.Proofs.Ytanipbjbaalomaa.PWire
open Go.RowKit Go.Proofs.YtanipbjbaalomaaW.PrintWords Go.Proofs.YtanipbjbaalomaaW.PrintLast Go.Proofs.YtanipbjbaalomaaW.PrintMore
attribute [local go_sem] max2_int min2_int max_two min_two max_three min_three max_four min_four   -- for this text's walks alone
set_option linter.unusedVariables false
set_option linter.unusedSimpArgs false

/-! ### slotmeshlaw04_WireFrames: function 6 -/
mutual
def slotmeshlaw04_WireFrames.j0 : Nat → List Int → Bool → Bool → Int → Int → Int → Int → Int → List Int → Option (Bool)
  | 0, _, _, _, _, _, _, _, _, _ => none
  | k + 1, x1, x5, x23, x474000, x474001, x474002, x474003, x474004, x474005 => if x23 = true then (some x5) else ((wire_Pack.f k x474000 x474001 x474002 x474003 x474004 x474005).bind fun bt475 => (if bt475.2 = 0 then ((wire_Unpack.f k bt475.1).bind fun bt479 => (if x5 = true then (if bt479.2.2.2.2.2.2 = 0 then ((slotmeshref04_SameFrame.f k x474000 x474001 x474002 x474003 x474004 x474005 bt479.1 bt479.2.1 bt479.2.2.1 bt479.2.2.2.1 bt479.2.2.2.2.1 bt479.2.2.2.2.2.1).bind fun t489 => (slotmeshlaw04_WireFrames.j1 k x1 t489)) else (none)) else (none))) else (slotmeshlaw04_WireFrames.j1 k x1 x5)))
def slotmeshlaw04_WireFrames.j1 : Nat → List Int → Bool → Option (Bool)
  | 0, _, _ => none
  | k + 1, x1, x5 => (wire_Unpack.f k x1).bind fun bt490 => (if bt490.2.2.2.2.2.2 = 0 then ((wire_Pack.f k bt490.1 bt490.2.1 bt490.2.2.1 bt490.2.2.2.1 bt490.2.2.2.2.1 bt490.2.2.2.2.2.1).bind fun bt500 => (if x5 = true then (if bt500.2 = 0 then ((slotmeshref04_Same.f k bt500.1 x1).bind fun t504 => (some t504)) else (none)) else (none))) else (some x5))
end
def slotmeshlaw04_WireFrames.f (k : Nat) (a0_0 : Int) (a0_1 : Int) (a0_2 : Int) (a0_3 : Int) (a0_4 : Int) (l0_5 : List Int) (l1 : List Int) : Option (Bool) := (slotmeshlaw04_head.f k).bind fun t474 => (if (l0_5.length : Int) > 6000 then (slotmeshlaw04_WireFrames.j0 k l1 t474 true a0_0 a0_1 a0_2 a0_3 a0_4 l0_5) else (slotmeshlaw04_WireFrames.j0 k l1 t474 (decide ((l1.length : Int) > 6000)) a0_0 a0_1 a0_2 a0_3 a0_4 l0_5))
theorem slotmeshlaw04_WireFrames.mono_l : ∀ k, (∀ y0 y1 y2 y3 y4 y5 y6 y7 y8, LeO (slotmeshlaw04_WireFrames.j0 k y0 y1 y2 y3 y4 y5 y6 y7 y8) (slotmeshlaw04_WireFrames.j0 (k + 1) y0 y1 y2 y3 y4 y5 y6 y7 y8)) ∧ (∀ y0 y1, LeO (slotmeshlaw04_WireFrames.j1 k y0 y1) (slotmeshlaw04_WireFrames.j1 (k + 1) y0 y1))
  | 0 => ⟨fun _ _ _ _ _ _ _ _ _ r h => by simp [slotmeshlaw04_WireFrames.j0] at h, fun _ _ r h => by simp [slotmeshlaw04_WireFrames.j1] at h⟩
  | k + 1 => by
    obtain ⟨ih0, ih1⟩ := slotmeshlaw04_WireFrames.mono_l k
    refine ⟨?_, ?_⟩
    · intro y0 y1 y2 y3 y4 y5 y6 y7 y8
      unfold slotmeshlaw04_WireFrames.j0
      repeat' first
      | (with_reducible exact ih0 _ _ _ _ _ _ _ _ _)
      | (with_reducible exact ih1 _ _)
      | (with_reducible exact slotmeshlaw04_head.mono _)
      | (with_reducible exact slotmeshref04_Same.mono _ _ _)
      | (with_reducible exact slotmeshref04_SameFrame.mono _ _ _ _ _ _ _ _ _ _ _ _ _)
      | (with_reducible exact wire_Pack.mono _ _ _ _ _ _ _)
      | (with_reducible exact wire_Unpack.mono _ _)
      | (with_reducible exact LeO.refl _)
      | (with_reducible exact LeO.none _)
      | (with_reducible refine LeO.ite ?_ ?_)
      | (with_reducible refine LeO.bind ?_ (fun _ => ?_))
      | exact ih0 _ _ _ _ _ _ _ _ _
      | exact ih1 _ _
      | exact slotmeshlaw04_head.mono _
      | exact slotmeshref04_Same.mono _ _ _
      | exact slotmeshref04_SameFrame.mono _ _ _ _ _ _ _ _ _ _ _ _ _
      | exact wire_Pack.mono _ _ _ _ _ _ _
      | exact wire_Unpack.mono _ _
      | exact LeO.none _
      | refine LeO.ite ?_ ?_
      | refine LeO.bind ?_ (fun _ => ?_)
    · intro y0 y1
      unfold slotmeshlaw04_WireFrames.j1
      repeat' first
      | (with_reducible exact ih0 _ _ _ _ _ _ _ _ _)
      | (with_reducible exact ih1 _ _)
      | (with_reducible exact slotmeshlaw04_head.mono _)
      | (with_reducible exact slotmeshref04_Same.mono _ _ _)
      | (with_reducible exact slotmeshref04_SameFrame.mono _ _ _ _ _ _ _ _ _ _ _ _ _)
      | (with_reducible exact wire_Pack.mono _ _ _ _ _ _ _)
      | (with_reducible exact wire_Unpack.mono _ _)
      | (with_reducible exact LeO.refl _)
      | (with_reducible exact LeO.none _)
      | (with_reducible refine LeO.ite ?_ ?_)
      | (with_reducible refine LeO.bind ?_ (fun _ => ?_))
      | exact ih0 _ _ _ _ _ _ _ _ _
      | exact ih1 _ _
      | exact slotmeshlaw04_head.mono _
      | exact slotmeshref04_Same.mono _ _ _
      | exact slotmeshref04_SameFrame.mono _ _ _ _ _ _ _ _ _ _ _ _ _
      | exact wire_Pack.mono _ _ _ _ _ _ _
      | exact wire_Unpack.mono _ _
      | exact LeO.none _
      | refine LeO.ite ?_ ?_
      | refine LeO.bind ?_ (fun _ => ?_)
theorem slotmeshlaw04_WireFrames.mono : ∀ a0 a1 a2 a3 a4 a5 a6 k, LeO (slotmeshlaw04_WireFrames.f k a0 a1 a2 a3 a4 a5 a6) (slotmeshlaw04_WireFrames.f (k + 1) a0 a1 a2 a3 a4 a5 a6) := by
  intro a0 a1 a2 a3 a4 a5 a6 k
  obtain ⟨ih0, ih1⟩ := slotmeshlaw04_WireFrames.mono_l k
  unfold slotmeshlaw04_WireFrames.f
  repeat' first
      | (with_reducible exact ih0 _ _ _ _ _ _ _ _ _)
      | (with_reducible exact ih1 _ _)
      | (with_reducible exact slotmeshlaw04_head.mono _)
      | (with_reducible exact slotmeshref04_Same.mono _ _ _)
      | (with_reducible exact slotmeshref04_SameFrame.mono _ _ _ _ _ _ _ _ _ _ _ _ _)
      | (with_reducible exact wire_Pack.mono _ _ _ _ _ _ _)
      | (with_reducible exact wire_Unpack.mono _ _)
      | (with_reducible exact LeO.refl _)
      | (with_reducible exact LeO.none _)
      | (with_reducible refine LeO.ite ?_ ?_)
      | (with_reducible refine LeO.bind ?_ (fun _ => ?_))
      | exact ih0 _ _ _ _ _ _ _ _ _
      | exact ih1 _ _
      | exact slotmeshlaw04_head.mono _
      | exact slotmeshref04_Same.mono _ _ _
      | exact slotmeshref04_SameFrame.mono _ _ _ _ _ _ _ _ _ _ _ _ _
      | exact wire_Pack.mono _ _ _ _ _ _ _
      | exact wire_Unpack.mono _ _
      | exact LeO.none _
      | refine LeO.ite ?_ ?_
      | refine LeO.bind ?_ (fun _ => ?_)
set_option maxHeartbeats 8000000 in
set_option maxRecDepth 100000 in
theorem slotmeshlaw04_WireFrames.calls (k : Nat) (a0_0 : Int) (a0_1 : Int) (a0_2 : Int) (a0_3 : Int) (a0_4 : Int) (A0_5 : Option Addr) (c0_5 : Nat) (l0_5 : List Int) (A1 : Option Addr) (c1 : Nat) (l1 : List Int) (r : Bool) (w : World) (hr0_5 : Kd.C (Kd.int .u8) w A0_5 l0_5.length l0_5) (hc0_5 : l0_5.length ≤ c0_5) (hr1 : Kd.C (Kd.int .u8) w A1 l1.length l1) (hc1 : l1.length ≤ c1) (h : slotmeshlaw04_WireFrames.f k a0_0 a0_1 a0_2 a0_3 a0_4 l0_5 l1 = some r) :
    Calls Try.prog 6 #[.agg #[.int .i64 a0_0, .int .i64 a0_1, .int .i64 a0_2, .int .i64 a0_3, .int .i64 a0_4, .slice A0_5 l0_5.length c0_5], .slice A1 l1.length c1] w fun e w' => e = .returned (.bool r) ∧ Below w.heap.size w w' := by
  have hu24 := Try.underlying24
  have HR0_5 := Aside0.mk hr0_5
  have HC0_5 := Aside0.mk hc0_5
  clear hr0_5 hc0_5
  have HR1 := Aside0.mk hr1
  have HC1 := Aside0.mk hc1
  clear hr1 hc1
  have HB := Aside0.mk (Below.refl w.heap.size w)
  have H : ((slotmeshlaw04_head.f k).bind fun t474 => (if (l0_5.length : Int) > 6000 then (slotmeshlaw04_WireFrames.j0 k l1 t474 true a0_0 a0_1 a0_2 a0_3 a0_4 l0_5) else (slotmeshlaw04_WireFrames.j0 k l1 t474 (decide ((l1.length : Int) > 6000)) a0_0 a0_1 a0_2 a0_3 a0_4 l0_5))) = some r := h
  clear h
  replace H := Option.bind_eq_some_iff.mp H
  obtain ⟨t474, A30, H⟩ := H
  replace H : (if (l0_5.length : Int) > 6000 then (slotmeshlaw04_WireFrames.j0 k l1 t474 true a0_0 a0_1 a0_2 a0_3 a0_4 l0_5) else (slotmeshlaw04_WireFrames.j0 k l1 t474 (decide ((l1.length : Int) > 6000)) a0_0 a0_1 a0_2 a0_3 a0_4 l0_5)) = some r := H
  have A3 := Aside0.mk A30
  clear A30
  have HC4 := Aside0.mk H
  clear H
  go_enter Try.func6, Try.ntmps6
  go_upto_region 2 with (first | ((with_reducible refine gate_dst (N := 2) rfl ?_); (try (refine gate_guard (by rfl) ?_; dsimp only)); refine box_event ?hg (N := 2) ?hd (cs := #[.int .i64 a0_0, .int .i64 a0_1, .int .i64 a0_2, .int .i64 a0_3, .int .i64 a0_4, .slice A0_5 l0_5.length c0_5]) (t := 24) ?hr ?_; (case hd => rfl); (case hg => rfl); (case hr => first | (go_simp; done) | (go_simp; rfl)); intro gb473 hg w5 hbox hb; have n0_ := Aside0.mk (below_step (by repeat (first | (with_reducible first | exact HB.out | apply below_alloc | apply pw_below_drewN | apply below_drew1) | exact HB.out)) hb); have n1_ := Aside0.mk (hbox); have n2_ := Aside0.mk ((by rw [hg]; exact (below_size (by repeat (first | (with_reducible first | exact HB.out | apply below_alloc | apply pw_below_drewN | apply below_drew1) | exact HB.out))) : w.heap.size ≤ gb473)); have n3_ := Aside0.mk ((by rw [hg]; exact (below_size (by repeat (first | (with_reducible first | exact HB.out | apply below_alloc | apply pw_below_drewN | apply below_drew1) | exact HB.out))) : w.heap.size ≤ gb473)); clear HB; have HB := n0_; have BK473 := n1_; have GW473 := n2_; have GE473 := n3_; clear n0_ n1_ n2_ n3_; clear hb hbox hg) | ((with_reducible refine gate_callee (f := 17) rfl ?_); refine goesL_ (some 14) rfl rfl Try.func17 (by kernel_rfl) rfl #[] rfl (by (try simp only [List.map_toArray, List.map_cons, List.map_nil]); first | done | rfl | (simp only [List.length_drop, List.length_take]; rfl)) ?_; (with_reducible refine (slotmeshlaw04_head.calls k  t474 _ A3.out).mono ?_); rintro e w6 ⟨rfl, hb⟩; refine ⟨_, rfl, ?_⟩; have n0_ := Aside0.mk (blk_below (g := gb473) (o := .cells #[.int .i64 a0_0, .int .i64 a0_1, .int .i64 a0_2, .int .i64 a0_3, .int .i64 a0_4, .slice A0_5 l0_5.length c0_5] 24 (0, 0)) (by (with_reducible repeat (first | refine blk_drewN ?_ _ | refine blk_drew ?_ | refine blk_alloc ?_ _)); exact BK473.out) hb); have n1_ := Aside0.mk (below_step (by repeat (first | (with_reducible first | exact HB.out | apply below_alloc | apply pw_below_drewN | apply below_drew1 | refine below_set ?_ GE473.out) | exact HB.out)) hb); clear BK473; clear HB; have BK473 := n0_; have HB := n1_; clear n0_ n1_; (try clear hb); (try clear hb2); (try clear hk); (try clear hi)))
  (try simp only [Act.put, List.setIfInBounds_toArray, List.set_cons_zero, List.set_cons_succ])
  go_cut [23] (fun v23 wc => ∃ (kq : Nat) (x23_3 : Bool), v23 = .bool x23_3 ∧ Aside0 (slotmeshlaw04_WireFrames.j0 kq l1 t474 x23_3 a0_0 a0_1 a0_2 a0_3 a0_4 l0_5 = some r) ∧ Aside0 (kq ≤ k) ∧ Aside0 (wc.heap[gb473]? = some (.cells #[.int .i64 a0_0, .int .i64 a0_1, .int .i64 a0_2, .int .i64 a0_3, .int .i64 a0_4, (.slice A0_5 l0_5.length c0_5)] 24 (0, 0))) ∧ Aside0 (Below w.heap.size w wc))
  case first =>
    have H := HC4.out
    clear HC4
    by_cases c7 : (l0_5.length : Int) > 6000
    · rw [if_pos c7] at H
      have c7b0 : decide (6000 < (l0_5.length : Int)) = true := decide_eq_true c7
      have c7b1 : decide (6000 < l0_5.length) = true := decide_eq_true (by omega)
      clear c7
      (first | rw [c7b0] | (simp only [i64_w, i32_w]; rw [c7b0]) | skip)
      have H' := Aside0.mk H
      clear H
      have hcz8_0 : w6.cell? ⟨gb473, 0, none⟩ = some (.int .i64 a0_0) := (blk_cell BK473.out 0).trans rfl
      have hcz8_1 : w6.cell? ⟨gb473, 1, none⟩ = some (.int .i64 a0_1) := (blk_cell BK473.out 1).trans rfl
      have hcz8_2 : w6.cell? ⟨gb473, 2, none⟩ = some (.int .i64 a0_2) := (blk_cell BK473.out 2).trans rfl
      have hcz8_3 : w6.cell? ⟨gb473, 3, none⟩ = some (.int .i64 a0_3) := (blk_cell BK473.out 3).trans rfl
      have hcz8_4 : w6.cell? ⟨gb473, 4, none⟩ = some (.int .i64 a0_4) := (blk_cell BK473.out 4).trans rfl
      have hcz8_5 : w6.cell? ⟨gb473, 5, none⟩ = some (.slice A0_5 l0_5.length c0_5) := (blk_cell BK473.out 5).trans rfl
      have hfz8_0 := blk_frozen BK473.out 0
      have hfz8_1 := blk_frozen BK473.out 1
      have hfz8_2 := blk_frozen BK473.out 2
      have hfz8_3 := blk_frozen BK473.out 3
      have hfz8_4 := blk_frozen BK473.out 4
      have hfz8_5 := blk_frozen BK473.out 5
      go_wp2
      go_meet
      case rel => exact ⟨_, (true), (by first | rfl | (simp; done) | (simp [*]; done)), H', ⟨by first | omega | exact Nat.le_refl _⟩, ⟨by (with_reducible repeat (first | refine blk_drewN ?_ _ | refine blk_drew ?_ | refine blk_alloc ?_ _)); exact BK473.out⟩, ⟨by repeat (first | (with_reducible first | exact HB.out | apply below_alloc | apply pw_below_drewN | apply below_drew1 | refine below_set ?_ GE473.out) | exact HB.out)⟩⟩
    · rw [if_neg c7] at H
      have c7b0 : decide (6000 < (l0_5.length : Int)) = false := decide_eq_false c7
      have c7b1 : decide (6000 < l0_5.length) = false := decide_eq_false (by omega)
      clear c7
      (first | rw [c7b0] | (simp only [i64_w, i32_w]; rw [c7b0]) | skip)
      have H' := Aside0.mk H
      clear H
      have hcz9_0 : w6.cell? ⟨gb473, 0, none⟩ = some (.int .i64 a0_0) := (blk_cell BK473.out 0).trans rfl
      have hcz9_1 : w6.cell? ⟨gb473, 1, none⟩ = some (.int .i64 a0_1) := (blk_cell BK473.out 1).trans rfl
      have hcz9_2 : w6.cell? ⟨gb473, 2, none⟩ = some (.int .i64 a0_2) := (blk_cell BK473.out 2).trans rfl
      have hcz9_3 : w6.cell? ⟨gb473, 3, none⟩ = some (.int .i64 a0_3) := (blk_cell BK473.out 3).trans rfl
      have hcz9_4 : w6.cell? ⟨gb473, 4, none⟩ = some (.int .i64 a0_4) := (blk_cell BK473.out 4).trans rfl
      have hcz9_5 : w6.cell? ⟨gb473, 5, none⟩ = some (.slice A0_5 l0_5.length c0_5) := (blk_cell BK473.out 5).trans rfl
      have hfz9_0 := blk_frozen BK473.out 0
      have hfz9_1 := blk_frozen BK473.out 1
      have hfz9_2 := blk_frozen BK473.out 2
      have hfz9_3 := blk_frozen BK473.out 3
      have hfz9_4 := blk_frozen BK473.out 4
      have hfz9_5 := blk_frozen BK473.out 5
      go_wp2
      go_meet
      case rel => exact ⟨_, (decide ((l1.length : Int) > 6000)), (by first | rfl | (simp; done) | (simp [*]; done)), H', ⟨by first | omega | exact Nat.le_refl _⟩, ⟨by (with_reducible repeat (first | refine blk_drewN ?_ _ | refine blk_drew ?_ | refine blk_alloc ?_ _)); exact BK473.out⟩, ⟨by repeat (first | (with_reducible first | exact HB.out | apply below_alloc | apply pw_below_drewN | apply below_drew1 | refine below_set ?_ GE473.out) | exact HB.out)⟩⟩
  case rest =>
    clear HC4
    try clear c1
    try clear p2
    try clear c6
    try clear c7
    try clear c7b0
    try clear c7b1
    try clear hcz8_0
    try clear hcz8_1
    try clear hcz8_2
    try clear hcz8_3
    try clear hcz8_4
    try clear hcz8_5
    try clear hcz9_0
    try clear hcz9_1
    try clear hcz9_2
    try clear hcz9_3
    try clear hcz9_4
    try clear hcz9_5
    try clear hfz8_0
    try clear hfz8_1
    try clear hfz8_2
    try clear hfz8_3
    try clear hfz8_4
    try clear hfz8_5
    try clear hfz9_0
    try clear hfz9_1
    try clear hfz9_2
    try clear hfz9_3
    try clear hfz9_4
    try clear hfz9_5
    obtain ⟨kq, x23_3, rfl, HA, HJ3, BK473, HB⟩ := hcut
    cases kq with
    | zero => exact absurd HA.out (by simp [slotmeshlaw04_WireFrames.j0])
    | succ kj3 =>
      have H := HA.out
      clear HA
      simp only [slotmeshlaw04_WireFrames.j0] at H
      by_cases c10 : x23_3 = true
      · subst c10
        have H1 : (some t474) = some r := by rw [if_pos rfl] at H; exact H
        clear H
        have H := H1
        clear H1
        obtain rfl := Option.some.inj H
        go_wp2
        go_ret
        exact ⟨by first | rfl | (simp [errW_none, errW_some] <;> rfl) | (simp [*, errW_none, errW_some] <;> rfl), by repeat (first | (with_reducible first | exact HB.out | apply below_alloc | apply pw_below_drewN | apply below_drew1 | refine below_set ?_ GE473.out) | exact HB.out)⟩
      · replace c10 := Bool.eq_false_iff.mpr c10
        subst c10
        have H1 : ((wire_Pack.f kj3 a0_0 a0_1 a0_2 a0_3 a0_4 l0_5).bind fun bt475 => (if bt475.2 = 0 then ((wire_Unpack.f kj3 bt475.1).bind fun bt479 => (if t474 = true then (if bt479.2.2.2.2.2.2 = 0 then ((slotmeshref04_SameFrame.f kj3 a0_0 a0_1 a0_2 a0_3 a0_4 l0_5 bt479.1 bt479.2.1 bt479.2.2.1 bt479.2.2.2.1 bt479.2.2.2.2.1 bt479.2.2.2.2.2.1).bind fun t489 => (slotmeshlaw04_WireFrames.j1 kj3 l1 t489)) else (none)) else (none))) else (slotmeshlaw04_WireFrames.j1 kj3 l1 t474))) = some r := by rw [if_neg (show ¬ (false = true) by decide)] at H; exact H
        clear H
        have H := H1
        clear H1
        replace H := Option.bind_eq_some_iff.mp H
        obtain ⟨⟨t475, t478⟩, A110, H⟩ := H
        replace H : (if t478 = 0 then ((wire_Unpack.f kj3 t475).bind fun bt479 => (if t474 = true then (if bt479.2.2.2.2.2.2 = 0 then ((slotmeshref04_SameFrame.f kj3 a0_0 a0_1 a0_2 a0_3 a0_4 l0_5 bt479.1 bt479.2.1 bt479.2.2.1 bt479.2.2.2.1 bt479.2.2.2.2.1 bt479.2.2.2.2.2.1).bind fun t489 => (slotmeshlaw04_WireFrames.j1 kj3 l1 t489)) else (none)) else (none))) else (slotmeshlaw04_WireFrames.j1 kj3 l1 t474)) = some r := H
        have A11 := Aside0.mk A110
        clear A110
        have HC12 := Aside0.mk H
        clear H
        have hcz13_0 : wc.cell? ⟨gb473, 0, none⟩ = some (.int .i64 a0_0) := (blk_cell BK473.out 0).trans rfl
        have hcz13_1 : wc.cell? ⟨gb473, 1, none⟩ = some (.int .i64 a0_1) := (blk_cell BK473.out 1).trans rfl
        have hcz13_2 : wc.cell? ⟨gb473, 2, none⟩ = some (.int .i64 a0_2) := (blk_cell BK473.out 2).trans rfl
        have hcz13_3 : wc.cell? ⟨gb473, 3, none⟩ = some (.int .i64 a0_3) := (blk_cell BK473.out 3).trans rfl
        have hcz13_4 : wc.cell? ⟨gb473, 4, none⟩ = some (.int .i64 a0_4) := (blk_cell BK473.out 4).trans rfl
        have hcz13_5 : wc.cell? ⟨gb473, 5, none⟩ = some (.slice A0_5 l0_5.length c0_5) := (blk_cell BK473.out 5).trans rfl
        have hfz13_0 := blk_frozen BK473.out 0
        have hfz13_1 := blk_frozen BK473.out 1
        have hfz13_2 := blk_frozen BK473.out 2
        have hfz13_3 := blk_frozen BK473.out 3
        have hfz13_4 := blk_frozen BK473.out 4
        have hfz13_5 := blk_frozen BK473.out 5
        go_upto_if 31 with (first | ((with_reducible refine gate_callee (f := 28) rfl ?_); refine goesL_ (some 27) rfl rfl Try.func28 (by kernel_rfl) rfl #[.agg #[.int .i64 a0_0, .int .i64 a0_1, .int .i64 a0_2, .int .i64 a0_3, .int .i64 a0_4, .slice A0_5 l0_5.length c0_5]] rfl (by (try simp only [List.map_toArray, List.map_cons, List.map_nil]); first | done | rfl | (simp only [List.length_drop, List.length_take]; rfl)) ?_; (with_reducible refine (wire_Pack.calls kj3 a0_0 a0_1 a0_2 a0_3 a0_4 _ _ l0_5 t475 t478 _ ?side1 ?side2 A11.out).mono ?_); (case side1 => repeat (first | exact (Kd.C_below HR0_5.out HB.out) | (with_reducible refine Kd.C_alloc ?_ _) | (with_reducible refine Kd.C_drewN ?_ _) | (with_reducible refine Kd.C_drew ?_))); (case side2 => exact HC0_5.out); rintro e w14 ⟨v476, rfl, ho0, hb⟩; refine ⟨_, rfl, ?_⟩; have n0_ := Aside0.mk (Kd.R_lower ho0 (below_size (by repeat (first | (with_reducible first | exact HB.out | apply below_alloc | apply pw_below_drewN | apply below_drew1 | refine below_set ?_ GE473.out) | exact HB.out)))); have n1_ := Aside0.mk (blk_below (g := gb473) (o := .cells #[.int .i64 a0_0, .int .i64 a0_1, .int .i64 a0_2, .int .i64 a0_3, .int .i64 a0_4, .slice A0_5 l0_5.length c0_5] 24 (0, 0)) (by (with_reducible repeat (first | refine blk_drewN ?_ _ | refine blk_drew ?_ | refine blk_alloc ?_ _)); exact BK473.out) hb); have n2_ := Aside0.mk (below_step (by repeat (first | (with_reducible first | exact HB.out | apply below_alloc | apply pw_below_drewN | apply below_drew1 | refine below_set ?_ GE473.out) | exact HB.out)) hb); clear BK473; clear HB; have HO477 := n0_; have BK473 := n1_; have HB := n2_; clear n0_ n1_ n2_; (try clear hb); (try clear hb2); (try clear hk); (try clear hi); (try clear ho0)))
        (try simp only [Act.put, List.setIfInBounds_toArray, List.set_cons_zero, List.set_cons_succ])
        go_cut [5] (fun v5 wc => ∃ (kq : Nat) (x5_11 : Bool), v5 = .bool x5_11 ∧ Aside0 (slotmeshlaw04_WireFrames.j1 kq l1 x5_11 = some r) ∧ Aside0 (kq ≤ kj3) ∧ Aside0 (wc.heap[gb473]? = some (.cells #[.int .i64 a0_0, .int .i64 a0_1, .int .i64 a0_2, .int .i64 a0_3, .int .i64 a0_4, (.slice A0_5 l0_5.length c0_5)] 24 (0, 0))) ∧ Aside0 (Below w.heap.size w wc))
        case first =>
          have H := HC12.out
          clear HC12
          by_cases c15 : t478 = 0
          · rw [if_pos c15] at H
            have c15b0 : (t478 == 0) = true := beq_iff_eq.mpr c15
            have c15b1 : (t478 != 0) = false := bne_eq_false_iff_eq.mpr c15
            clear c15
            (first | rw [c15b0] | (simp only [i64_w, i32_w]; rw [c15b0]) | skip)
            replace H := Option.bind_eq_some_iff.mp H
            obtain ⟨⟨t479, t480, t481, t482, t483, t484, t487⟩, A160, H⟩ := H
            replace H : (if t474 = true then (if t487 = 0 then ((slotmeshref04_SameFrame.f kj3 a0_0 a0_1 a0_2 a0_3 a0_4 l0_5 t479 t480 t481 t482 t483 t484).bind fun t489 => (slotmeshlaw04_WireFrames.j1 kj3 l1 t489)) else (none)) else (none)) = some r := H
            have A16 := Aside0.mk A160
            clear A160
            by_cases c17 : t474 = true
            · subst c17
              have H1 : (if t487 = 0 then ((slotmeshref04_SameFrame.f kj3 a0_0 a0_1 a0_2 a0_3 a0_4 l0_5 t479 t480 t481 t482 t483 t484).bind fun t489 => (slotmeshlaw04_WireFrames.j1 kj3 l1 t489)) else (none)) = some r := by rw [if_pos rfl] at H; exact H
              clear H
              have H := H1
              clear H1
              by_cases c18 : t487 = 0
              · rw [if_pos c18] at H
                have c18b0 : (t487 == 0) = true := beq_iff_eq.mpr c18
                have c18b1 : (t487 != 0) = false := bne_eq_false_iff_eq.mpr c18
                clear c18
                replace H := Option.bind_eq_some_iff.mp H
                obtain ⟨t489, A190, H⟩ := H
                replace H : (slotmeshlaw04_WireFrames.j1 kj3 l1 t489) = some r := H
                have A19 := Aside0.mk A190
                clear A190
                have H' := Aside0.mk H
                clear H
                obtain ⟨Ao20, co20, eo20⟩ := Kd.R_slice HO477.out
                subst eo20
                go_wp2_with (first | ((with_reducible refine gate_callee (f := 30) rfl ?_); refine goesL_ (some 34) rfl rfl Try.func30 (by kernel_rfl) rfl #[.slice Ao20 t475.length co20] rfl (by (try simp only [List.map_toArray, List.map_cons, List.map_nil]); first | done | rfl | (simp only [List.length_drop, List.length_take]; rfl)) ?_; (with_reducible refine (wire_Unpack.calls kj3 _ _ t475 t479 t480 t481 t482 t483 t484 t487 _ ?side1 ?side2 A16.out).mono ?_); (case side1 => repeat (first | exact (Kd.R_reads' HO477.out).2.2 | (with_reducible refine Kd.C_alloc ?_ _) | (with_reducible refine Kd.C_drewN ?_ _) | (with_reducible refine Kd.C_drew ?_))); (case side2 => exact (Kd.R_reads' HO477.out).2.1); rintro e w21 ⟨v485, rfl, ho0, hb⟩; refine ⟨_, rfl, ?_⟩; have n0_ := Aside0.mk (Kd.R_elder' (by (with_reducible repeat (first | apply Kd.R_alloc | apply Kd.R_drewN | apply Kd.R_drew)); exact HO477.out) (Kd.R_base ho0) hb); have n1_ := Aside0.mk (Kd.R_lower (Kd.R_new' ho0 (Kd.R_lt (by (with_reducible repeat (first | apply Kd.R_alloc | apply Kd.R_drewN | apply Kd.R_drew)); exact HO477.out))) (below_size (by repeat (first | (with_reducible first | exact HB.out | apply below_alloc | apply pw_below_drewN | apply below_drew1 | refine below_set ?_ GE473.out) | exact HB.out)))); have n2_ := Aside0.mk (blk_below (g := gb473) (o := .cells #[.int .i64 a0_0, .int .i64 a0_1, .int .i64 a0_2, .int .i64 a0_3, .int .i64 a0_4, .slice A0_5 l0_5.length c0_5] 24 (0, 0)) (by (with_reducible repeat (first | refine blk_drewN ?_ _ | refine blk_drew ?_ | refine blk_alloc ?_ _)); exact BK473.out) hb); have n3_ := Aside0.mk (below_step (by repeat (first | (with_reducible first | exact HB.out | apply below_alloc | apply pw_below_drewN | apply below_drew1 | refine below_set ?_ GE473.out) | exact HB.out)) hb); clear HO477; clear BK473; clear HB; have HO477 := n0_; have HO486 := n1_; have BK473 := n2_; have HB := n3_; clear n0_ n1_ n2_ n3_; (try clear hb); (try clear hb2); (try clear hk); (try clear hi); (try clear ho0)) | ((with_reducible refine gate_dst (N := 8) rfl ?_); (try (refine gate_guard (by rfl) ?_; dsimp only)); refine box_event ?hg (N := 8) ?hd (cs := #[.int .i64 0, .int .i64 0, .int .i64 0, .int .i64 0, .int .i64 0, .slice none 0 0]) (t := 24) ?hr ?_; (case hd => rfl); (case hg => rfl); (case hr => first | (go_simp; done) | (go_simp; rfl)); intro gb488 hg w22 hbox hb; have n0_ := Aside0.mk (Kd.R_below (by (with_reducible repeat (first | apply Kd.R_alloc | apply Kd.R_drewN | apply Kd.R_drew)); exact HO477.out) hb); have n1_ := Aside0.mk (Kd.R_below (by (with_reducible repeat (first | apply Kd.R_alloc | apply Kd.R_drewN | apply Kd.R_drew)); exact HO486.out) hb); have n2_ := Aside0.mk (blk_below (g := gb473) (o := .cells #[.int .i64 a0_0, .int .i64 a0_1, .int .i64 a0_2, .int .i64 a0_3, .int .i64 a0_4, .slice A0_5 l0_5.length c0_5] 24 (0, 0)) (by (with_reducible repeat (first | refine blk_drewN ?_ _ | refine blk_drew ?_ | refine blk_alloc ?_ _)); exact BK473.out) hb); have n3_ := Aside0.mk (below_step (by repeat (first | (with_reducible first | exact HB.out | apply below_alloc | apply pw_below_drewN | apply below_drew1 | refine below_set ?_ GE473.out) | exact HB.out)) hb); have n4_ := Aside0.mk (hbox); have n5_ := Aside0.mk ((by rw [hg]; exact (below_size (by repeat (first | (with_reducible first | exact HB.out | apply below_alloc | apply pw_below_drewN | apply below_drew1 | refine below_set ?_ GE473.out) | exact HB.out))) : w.heap.size ≤ gb488)); have n6_ := Aside0.mk ((by rw [hg]; exact (below_size (by repeat (first | (with_reducible first | exact HB.out | apply below_alloc | apply pw_below_drewN | apply below_drew1 | refine below_set ?_ GE473.out) | exact HB.out))) : w.heap.size ≤ gb488)); have n7_ := Aside0.mk ((by rw [hg]; exact Nat.ne_of_lt (blk_lt (g := gb473) (o := .cells #[.int .i64 a0_0, .int .i64 a0_1, .int .i64 a0_2, .int .i64 a0_3, .int .i64 a0_4, .slice A0_5 l0_5.length c0_5] 24 (0, 0)) (by (with_reducible repeat (first | refine blk_drewN ?_ _ | refine blk_drew ?_ | refine blk_alloc ?_ _)); exact BK473.out)) : gb473 ≠ gb488)); have n8_ := Aside0.mk ((by rw [hg]; exact Nat.ne_of_gt (blk_lt (g := gb473) (o := .cells #[.int .i64 a0_0, .int .i64 a0_1, .int .i64 a0_2, .int .i64 a0_3, .int .i64 a0_4, .slice A0_5 l0_5.length c0_5] 24 (0, 0)) (by (with_reducible repeat (first | refine blk_drewN ?_ _ | refine blk_drew ?_ | refine blk_alloc ?_ _)); exact BK473.out)) : gb488 ≠ gb473)); clear HO477; clear HO486; clear BK473; clear HB; have HO477 := n0_; have HO486 := n1_; have BK473 := n2_; have HB := n3_; have BK488 := n4_; have GW488 := n5_; have GE488 := n6_; have NB473_488 := n7_; have NB488_473 := n8_; clear n0_ n1_ n2_ n3_ n4_ n5_ n6_ n7_ n8_; clear hb hbox hg; have hnb23 := NB488_473.out; have hnc23 := NB473_488.out; have hcz24_0 : w22.cell? ⟨gb488, 0, none⟩ = some (.int .i64 0) := (blk_cell BK488.out 0).trans rfl; have hcz24_1 : w22.cell? ⟨gb488, 1, none⟩ = some (.int .i64 0) := (blk_cell BK488.out 1).trans rfl; have hcz24_2 : w22.cell? ⟨gb488, 2, none⟩ = some (.int .i64 0) := (blk_cell BK488.out 2).trans rfl; have hcz24_3 : w22.cell? ⟨gb488, 3, none⟩ = some (.int .i64 0) := (blk_cell BK488.out 3).trans rfl; have hcz24_4 : w22.cell? ⟨gb488, 4, none⟩ = some (.int .i64 0) := (blk_cell BK488.out 4).trans rfl; have hcz24_5 : w22.cell? ⟨gb488, 5, none⟩ = some (.slice none 0 0) := (blk_cell BK488.out 5).trans rfl; have hfz24_0 := blk_frozen BK488.out 0; have hfz24_1 := blk_frozen BK488.out 1; have hfz24_2 := blk_frozen BK488.out 2; have hfz24_3 := blk_frozen BK488.out 3; have hfz24_4 := blk_frozen BK488.out 4; have hfz24_5 := blk_frozen BK488.out 5; obtain ⟨Ao25, co25, eo25⟩ := Kd.R_slice HO486.out; subst eo25; have hcz26_0 : w22.cell? ⟨gb473, 0, none⟩ = some (.int .i64 a0_0) := (blk_cell BK473.out 0).trans rfl; have hcz26_1 : w22.cell? ⟨gb473, 1, none⟩ = some (.int .i64 a0_1) := (blk_cell BK473.out 1).trans rfl; have hcz26_2 : w22.cell? ⟨gb473, 2, none⟩ = some (.int .i64 a0_2) := (blk_cell BK473.out 2).trans rfl; have hcz26_3 : w22.cell? ⟨gb473, 3, none⟩ = some (.int .i64 a0_3) := (blk_cell BK473.out 3).trans rfl; have hcz26_4 : w22.cell? ⟨gb473, 4, none⟩ = some (.int .i64 a0_4) := (blk_cell BK473.out 4).trans rfl; have hcz26_5 : w22.cell? ⟨gb473, 5, none⟩ = some (.slice A0_5 l0_5.length c0_5) := (blk_cell BK473.out 5).trans rfl; have hfz26_0 := blk_frozen BK473.out 0; have hfz26_1 := blk_frozen BK473.out 1; have hfz26_2 := blk_frozen BK473.out 2; have hfz26_3 := blk_frozen BK473.out 3; have hfz26_4 := blk_frozen BK473.out 4; have hfz26_5 := blk_frozen BK473.out 5) | (go_at_call 32; (with_reducible refine (slotmeshref04_SameFrame.calls kj3 a0_0 a0_1 a0_2 a0_3 a0_4 _ _ l0_5 t479 t480 t481 t482 t483 _ _ t484 t489 _ ?side1 ?side2 ?side3 ?side4 A19.out).mono ?_); (case side1 => exact Kd.C_below HR0_5.out (by repeat (first | (with_reducible first | exact HB.out | apply below_alloc | apply pw_below_drewN | apply below_drew1 | refine below_set ?_ GE473.out | refine below_set ?_ GE488.out) | exact HB.out))); (case side2 => exact HC0_5.out); (case side3 => refine (Kd.R_reads' (e := 5) (base := w.heap.size) (ok := fun k_ => (True ∧ some k_ ≠ (.slice Ao20 t475.length co20 : Value).ownBlock)) (n := t484.length) (c := co25) ?_).2.2; exact (by (with_reducible repeat (first | apply Kd.R_alloc | apply Kd.R_drewN | apply Kd.R_drew)); exact (Kd.R_mono (Kd.R_far (p := ⟨gb488, 5, none⟩) (Kd.R_far (p := ⟨gb488, 4, none⟩) (Kd.R_far (p := ⟨gb488, 3, none⟩) (Kd.R_far (p := ⟨gb488, 2, none⟩) (Kd.R_far (p := ⟨gb488, 1, none⟩) (Kd.R_far (p := ⟨gb488, 0, none⟩) (Kd.R_types HO486.out BK488.out (by decide)) (fun _ hk => hk.2) (.int .i64 t479)) (fun _ hk => hk.2) (.int .i64 t480)) (fun _ hk => hk.2) (.int .i64 t481)) (fun _ hk => hk.2) (.int .i64 t482)) (fun _ hk => hk.2) (.int .i64 t483)) (fun _ hk => hk.2) (.slice Ao25 t484.length co25)) (fun _ h_ => h_.1)))); (case side4 => exact (Kd.R_reads' HO486.out).2.1); rintro e w27 ⟨rfl, hb⟩; have n0_ := Aside0.mk (Kd.R_below (by (with_reducible repeat (first | apply Kd.R_alloc | apply Kd.R_drewN | apply Kd.R_drew)); exact (Kd.R_mono (Kd.R_far (p := ⟨gb488, 5, none⟩) (Kd.R_far (p := ⟨gb488, 4, none⟩) (Kd.R_far (p := ⟨gb488, 3, none⟩) (Kd.R_far (p := ⟨gb488, 2, none⟩) (Kd.R_far (p := ⟨gb488, 1, none⟩) (Kd.R_far (p := ⟨gb488, 0, none⟩) (Kd.R_types HO477.out BK488.out (by decide)) (fun _ hk => hk.2) (.int .i64 t479)) (fun _ hk => hk.2) (.int .i64 t480)) (fun _ hk => hk.2) (.int .i64 t481)) (fun _ hk => hk.2) (.int .i64 t482)) (fun _ hk => hk.2) (.int .i64 t483)) (fun _ hk => hk.2) (.slice Ao25 t484.length co25)) (fun _ h_ => h_.1))) hb); have n1_ := Aside0.mk (Kd.R_below (by (with_reducible repeat (first | apply Kd.R_alloc | apply Kd.R_drewN | apply Kd.R_drew)); exact (Kd.R_mono (Kd.R_far (p := ⟨gb488, 5, none⟩) (Kd.R_far (p := ⟨gb488, 4, none⟩) (Kd.R_far (p := ⟨gb488, 3, none⟩) (Kd.R_far (p := ⟨gb488, 2, none⟩) (Kd.R_far (p := ⟨gb488, 1, none⟩) (Kd.R_far (p := ⟨gb488, 0, none⟩) (Kd.R_types HO486.out BK488.out (by decide)) (fun _ hk => hk.2) (.int .i64 t479)) (fun _ hk => hk.2) (.int .i64 t480)) (fun _ hk => hk.2) (.int .i64 t481)) (fun _ hk => hk.2) (.int .i64 t482)) (fun _ hk => hk.2) (.int .i64 t483)) (fun _ hk => hk.2) (.slice Ao25 t484.length co25)) (fun _ h_ => h_.1))) hb); have n2_ := Aside0.mk (blk_below (g := gb473) (o := .cells #[.int .i64 a0_0, .int .i64 a0_1, .int .i64 a0_2, .int .i64 a0_3, .int .i64 a0_4, .slice A0_5 l0_5.length c0_5] 24 (0, 0)) (by (with_reducible repeat (first | refine blk_drewN ?_ _ | refine blk_drew ?_ | refine blk_alloc ?_ _)); refine blk_far ?_ NB473_488.out _; (with_reducible repeat (first | refine blk_drewN ?_ _ | refine blk_drew ?_ | refine blk_alloc ?_ _)); refine blk_far ?_ NB473_488.out _; (with_reducible repeat (first | refine blk_drewN ?_ _ | refine blk_drew ?_ | refine blk_alloc ?_ _)); refine blk_far ?_ NB473_488.out _; (with_reducible repeat (first | refine blk_drewN ?_ _ | refine blk_drew ?_ | refine blk_alloc ?_ _)); refine blk_far ?_ NB473_488.out _; (with_reducible repeat (first | refine blk_drewN ?_ _ | refine blk_drew ?_ | refine blk_alloc ?_ _)); refine blk_far ?_ NB473_488.out _; (with_reducible repeat (first | refine blk_drewN ?_ _ | refine blk_drew ?_ | refine blk_alloc ?_ _)); refine blk_far ?_ NB473_488.out _; (with_reducible repeat (first | refine blk_drewN ?_ _ | refine blk_drew ?_ | refine blk_alloc ?_ _)); exact BK473.out) hb); have n3_ := Aside0.mk (blk_below (g := gb488) (o := .cells #[.int .i64 t479, .int .i64 t480, .int .i64 t481, .int .i64 t482, .int .i64 t483, .slice Ao25 t484.length co25] 24 (0, 0)) (by (with_reducible repeat (first | refine blk_drewN ?_ _ | refine blk_drew ?_ | refine blk_alloc ?_ _)); refine blk_put (cs := #[.int .i64 t479, .int .i64 t480, .int .i64 t481, .int .i64 t482, .int .i64 t483, .slice none 0 0]) ?_ 5 _ rfl; (with_reducible repeat (first | refine blk_drewN ?_ _ | refine blk_drew ?_ | refine blk_alloc ?_ _)); refine blk_put (cs := #[.int .i64 t479, .int .i64 t480, .int .i64 t481, .int .i64 t482, .int .i64 0, .slice none 0 0]) ?_ 4 _ rfl; (with_reducible repeat (first | refine blk_drewN ?_ _ | refine blk_drew ?_ | refine blk_alloc ?_ _)); refine blk_put (cs := #[.int .i64 t479, .int .i64 t480, .int .i64 t481, .int .i64 0, .int .i64 0, .slice none 0 0]) ?_ 3 _ rfl; (with_reducible repeat (first | refine blk_drewN ?_ _ | refine blk_drew ?_ | refine blk_alloc ?_ _)); refine blk_put (cs := #[.int .i64 t479, .int .i64 t480, .int .i64 0, .int .i64 0, .int .i64 0, .slice none 0 0]) ?_ 2 _ rfl; (with_reducible repeat (first | refine blk_drewN ?_ _ | refine blk_drew ?_ | refine blk_alloc ?_ _)); refine blk_put (cs := #[.int .i64 t479, .int .i64 0, .int .i64 0, .int .i64 0, .int .i64 0, .slice none 0 0]) ?_ 1 _ rfl; (with_reducible repeat (first | refine blk_drewN ?_ _ | refine blk_drew ?_ | refine blk_alloc ?_ _)); refine blk_put (cs := #[.int .i64 0, .int .i64 0, .int .i64 0, .int .i64 0, .int .i64 0, .slice none 0 0]) ?_ 0 _ rfl; (with_reducible repeat (first | refine blk_drewN ?_ _ | refine blk_drew ?_ | refine blk_alloc ?_ _)); exact BK488.out) hb); have n4_ := Aside0.mk (below_step (by repeat (first | (with_reducible first | exact HB.out | apply below_alloc | apply pw_below_drewN | apply below_drew1 | refine below_set ?_ GE473.out | refine below_set ?_ GE488.out) | exact HB.out)) hb); clear HO477; clear HO486; clear BK473; clear BK488; clear HB; have HO477 := n0_; have HO486 := n1_; have BK473 := n2_; have BK488 := n3_; have HB := n4_; clear n0_ n1_ n2_ n3_ n4_; (try clear hb); (try clear hb2); (try clear hk); (try clear hi)))
                go_meet
                case rel => exact ⟨_, (t489), (by first | rfl | (simp; done) | (simp [*]; done)), H', ⟨by have := HJ3.out; first | omega | exact Nat.le_refl _⟩, ⟨by (with_reducible repeat (first | refine blk_drewN ?_ _ | refine blk_drew ?_ | refine blk_alloc ?_ _)); exact BK473.out⟩, ⟨by repeat (first | (with_reducible first | exact HB.out | apply below_alloc | apply pw_below_drewN | apply below_drew1 | refine below_set ?_ GE473.out | refine below_set ?_ GE488.out) | exact HB.out)⟩⟩
              · rw [if_neg c18] at H
                exact absurd H (by simp)
            · replace c17 := Bool.eq_false_iff.mpr c17
              subst c17
              have H1 : (none) = some r := by rw [if_neg (show ¬ (false = true) by decide)] at H; exact H
              clear H
              have H := H1
              clear H1
              exact absurd H (by simp)
          · rw [if_neg c15] at H
            have c15b0 : (t478 == 0) = false := beq_eq_false_iff_ne.mpr c15
            have c15b1 : (t478 != 0) = true := bne_iff_ne.mpr c15
            (first | rw [c15b0] | (simp only [i64_w, i32_w]; rw [c15b0]) | skip)
            have H' := Aside0.mk H
            clear H
            go_wp2
            go_meet
            case rel => exact ⟨_, (t474), (by first | rfl | (simp; done) | (simp [*]; done)), H', ⟨by have := HJ3.out; first | omega | exact Nat.le_refl _⟩, ⟨by (with_reducible repeat (first | refine blk_drewN ?_ _ | refine blk_drew ?_ | refine blk_alloc ?_ _)); exact BK473.out⟩, ⟨by repeat (first | (with_reducible first | exact HB.out | apply below_alloc | apply pw_below_drewN | apply below_drew1 | refine below_set ?_ GE473.out) | exact HB.out)⟩⟩
        case rest =>
          clear HC12
          try clear c1
          try clear c2
          try clear p2
          try clear c3
          try clear c6
          try clear c7
          try clear c7b0
          try clear c7b1
          try clear c10
          try clear c15
          try clear c15b0
          try clear c15b1
          try clear c17
          try clear c18
          try clear c18b0
          try clear c18b1
          try clear c23
          try clear hcz13_0
          try clear hcz13_1
          try clear hcz13_2
          try clear hcz13_3
          try clear hcz13_4
          try clear hcz13_5
          try clear hcz24_0
          try clear hcz24_1
          try clear hcz24_2
          try clear hcz24_3
          try clear hcz24_4
          try clear hcz24_5
          try clear hcz26_0
          try clear hcz26_1
          try clear hcz26_2
          try clear hcz26_3
          try clear hcz26_4
          try clear hcz26_5
          try clear hcz8_0
          try clear hcz8_1
          try clear hcz8_2
          try clear hcz8_3
          try clear hcz8_4
          try clear hcz8_5
          try clear hcz9_0
          try clear hcz9_1
          try clear hcz9_2
          try clear hcz9_3
          try clear hcz9_4
          try clear hcz9_5
          try clear hfz13_0
          try clear hfz13_1
          try clear hfz13_2
          try clear hfz13_3
          try clear hfz13_4
          try clear hfz13_5
          try clear hfz24_0
          try clear hfz24_1
          try clear hfz24_2
          try clear hfz24_3
          try clear hfz24_4
          try clear hfz24_5
          try clear hfz26_0
          try clear hfz26_1
          try clear hfz26_2
          try clear hfz26_3
          try clear hfz26_4
          try clear hfz26_5
          try clear hfz8_0
          try clear hfz8_1
          try clear hfz8_2
          try clear hfz8_3
          try clear hfz8_4
          try clear hfz8_5
          try clear hfz9_0
          try clear hfz9_1
          try clear hfz9_2
          try clear hfz9_3
          try clear hfz9_4
          try clear hfz9_5
          try clear p2
          obtain ⟨kq, x5_11, rfl, HA, HJ11, BK473, HB⟩ := hcut
          cases kq with
          | zero => exact absurd HA.out (by simp [slotmeshlaw04_WireFrames.j1])
          | succ kj11 =>
            have H := HA.out
            clear HA
            simp only [slotmeshlaw04_WireFrames.j1] at H
            replace H := Option.bind_eq_some_iff.mp H
            obtain ⟨⟨t490, t491, t492, t493, t494, t495, t498⟩, A280, H⟩ := H
            replace H : (if t498 = 0 then ((wire_Pack.f kj11 t490 t491 t492 t493 t494 t495).bind fun bt500 => (if x5_11 = true then (if bt500.2 = 0 then ((slotmeshref04_Same.f kj11 bt500.1 l1).bind fun t504 => (some t504)) else (none)) else (none))) else (some x5_11)) = some r := H
            have A28 := Aside0.mk A280
            clear A280
            by_cases c29 : t498 = 0
            · rw [if_pos c29] at H
              have c29b0 : (t498 == 0) = true := beq_iff_eq.mpr c29
              have c29b1 : (t498 != 0) = false := bne_eq_false_iff_eq.mpr c29
              clear c29
              replace H := Option.bind_eq_some_iff.mp H
              obtain ⟨⟨t500, t503⟩, A300, H⟩ := H
              replace H : (if x5_11 = true then (if t503 = 0 then ((slotmeshref04_Same.f kj11 t500 l1).bind fun t504 => (some t504)) else (none)) else (none)) = some r := H
              have A30 := Aside0.mk A300
              clear A300
              by_cases c31 : x5_11 = true
              · subst c31
                have H1 : (if t503 = 0 then ((slotmeshref04_Same.f kj11 t500 l1).bind fun t504 => (some t504)) else (none)) = some r := by rw [if_pos rfl] at H; exact H
                clear H
                have H := H1
                clear H1
                by_cases c32 : t503 = 0
                · rw [if_pos c32] at H
                  have c32b0 : (t503 == 0) = true := beq_iff_eq.mpr c32
                  have c32b1 : (t503 != 0) = false := bne_eq_false_iff_eq.mpr c32
                  clear c32
                  replace H := Option.bind_eq_some_iff.mp H
                  obtain ⟨t504, A330, H⟩ := H
                  replace H : (some t504) = some r := H
                  have A33 := Aside0.mk A330
                  clear A330
                  obtain rfl := Option.some.inj H
                  go_wp2_with (first | ((with_reducible refine gate_callee (f := 30) rfl ?_); refine goesL_ (some 49) rfl rfl Try.func30 (by kernel_rfl) rfl #[.slice A1 l1.length c1] rfl (by (try simp only [List.map_toArray, List.map_cons, List.map_nil]); first | done | rfl | (simp only [List.length_drop, List.length_take]; rfl)) ?_; (with_reducible refine (wire_Unpack.calls kj11 _ _ l1 t490 t491 t492 t493 t494 t495 t498 _ ?side1 ?side2 A28.out).mono ?_); (case side1 => repeat (first | exact (Kd.C_below HR1.out HB.out) | (with_reducible refine Kd.C_alloc ?_ _) | (with_reducible refine Kd.C_drewN ?_ _) | (with_reducible refine Kd.C_drew ?_))); (case side2 => exact HC1.out); rintro e w34 ⟨v496, rfl, ho0, hb⟩; refine ⟨_, rfl, ?_⟩; have n0_ := Aside0.mk (Kd.R_lower ho0 (below_size (by repeat (first | (with_reducible first | exact HB.out | apply below_alloc | apply pw_below_drewN | apply below_drew1 | refine below_set ?_ GE473.out) | exact HB.out)))); have n1_ := Aside0.mk (blk_below (g := gb473) (o := .cells #[.int .i64 a0_0, .int .i64 a0_1, .int .i64 a0_2, .int .i64 a0_3, .int .i64 a0_4, .slice A0_5 l0_5.length c0_5] 24 (0, 0)) (by (with_reducible repeat (first | refine blk_drewN ?_ _ | refine blk_drew ?_ | refine blk_alloc ?_ _)); exact BK473.out) hb); have n2_ := Aside0.mk (below_step (by repeat (first | (with_reducible first | exact HB.out | apply below_alloc | apply pw_below_drewN | apply below_drew1 | refine below_set ?_ GE473.out) | exact HB.out)) hb); clear BK473; clear HB; have HO497 := n0_; have BK473 := n1_; have HB := n2_; clear n0_ n1_ n2_; (try clear hb); (try clear hb2); (try clear hk); (try clear hi); (try clear ho0)) | ((with_reducible refine gate_dst (N := 10) rfl ?_); (try (refine gate_guard (by rfl) ?_; dsimp only)); refine box_event ?hg (N := 10) ?hd (cs := #[.int .i64 0, .int .i64 0, .int .i64 0, .int .i64 0, .int .i64 0, .slice none 0 0]) (t := 24) ?hr ?_; (case hd => rfl); (case hg => rfl); (case hr => first | (go_simp; done) | (go_simp; rfl)); intro gb499 hg w35 hbox hb; have n0_ := Aside0.mk (Kd.R_below (by (with_reducible repeat (first | apply Kd.R_alloc | apply Kd.R_drewN | apply Kd.R_drew)); exact HO497.out) hb); have n1_ := Aside0.mk (blk_below (g := gb473) (o := .cells #[.int .i64 a0_0, .int .i64 a0_1, .int .i64 a0_2, .int .i64 a0_3, .int .i64 a0_4, .slice A0_5 l0_5.length c0_5] 24 (0, 0)) (by (with_reducible repeat (first | refine blk_drewN ?_ _ | refine blk_drew ?_ | refine blk_alloc ?_ _)); exact BK473.out) hb); have n2_ := Aside0.mk (below_step (by repeat (first | (with_reducible first | exact HB.out | apply below_alloc | apply pw_below_drewN | apply below_drew1 | refine below_set ?_ GE473.out) | exact HB.out)) hb); have n3_ := Aside0.mk (hbox); have n4_ := Aside0.mk ((by rw [hg]; exact (below_size (by repeat (first | (with_reducible first | exact HB.out | apply below_alloc | apply pw_below_drewN | apply below_drew1 | refine below_set ?_ GE473.out) | exact HB.out))) : w.heap.size ≤ gb499)); have n5_ := Aside0.mk ((by rw [hg]; exact (below_size (by repeat (first | (with_reducible first | exact HB.out | apply below_alloc | apply pw_below_drewN | apply below_drew1 | refine below_set ?_ GE473.out) | exact HB.out))) : w.heap.size ≤ gb499)); have n6_ := Aside0.mk ((by rw [hg]; exact Nat.ne_of_lt (blk_lt (g := gb473) (o := .cells #[.int .i64 a0_0, .int .i64 a0_1, .int .i64 a0_2, .int .i64 a0_3, .int .i64 a0_4, .slice A0_5 l0_5.length c0_5] 24 (0, 0)) (by (with_reducible repeat (first | refine blk_drewN ?_ _ | refine blk_drew ?_ | refine blk_alloc ?_ _)); exact BK473.out)) : gb473 ≠ gb499)); have n7_ := Aside0.mk ((by rw [hg]; exact Nat.ne_of_gt (blk_lt (g := gb473) (o := .cells #[.int .i64 a0_0, .int .i64 a0_1, .int .i64 a0_2, .int .i64 a0_3, .int .i64 a0_4, .slice A0_5 l0_5.length c0_5] 24 (0, 0)) (by (with_reducible repeat (first | refine blk_drewN ?_ _ | refine blk_drew ?_ | refine blk_alloc ?_ _)); exact BK473.out)) : gb499 ≠ gb473)); clear HO497; clear BK473; clear HB; have HO497 := n0_; have BK473 := n1_; have HB := n2_; have BK499 := n3_; have GW499 := n4_; have GE499 := n5_; have NB473_499 := n6_; have NB499_473 := n7_; clear n0_ n1_ n2_ n3_ n4_ n5_ n6_ n7_; clear hb hbox hg; have hnb36 := NB499_473.out; have hnc36 := NB473_499.out; have hcz37_0 : w35.cell? ⟨gb499, 0, none⟩ = some (.int .i64 0) := (blk_cell BK499.out 0).trans rfl; have hcz37_1 : w35.cell? ⟨gb499, 1, none⟩ = some (.int .i64 0) := (blk_cell BK499.out 1).trans rfl; have hcz37_2 : w35.cell? ⟨gb499, 2, none⟩ = some (.int .i64 0) := (blk_cell BK499.out 2).trans rfl; have hcz37_3 : w35.cell? ⟨gb499, 3, none⟩ = some (.int .i64 0) := (blk_cell BK499.out 3).trans rfl; have hcz37_4 : w35.cell? ⟨gb499, 4, none⟩ = some (.int .i64 0) := (blk_cell BK499.out 4).trans rfl; have hcz37_5 : w35.cell? ⟨gb499, 5, none⟩ = some (.slice none 0 0) := (blk_cell BK499.out 5).trans rfl; have hfz37_0 := blk_frozen BK499.out 0; have hfz37_1 := blk_frozen BK499.out 1; have hfz37_2 := blk_frozen BK499.out 2; have hfz37_3 := blk_frozen BK499.out 3; have hfz37_4 := blk_frozen BK499.out 4; have hfz37_5 := blk_frozen BK499.out 5; obtain ⟨Ao38, co38, eo38⟩ := Kd.R_slice HO497.out; subst eo38) | ((with_reducible refine gate_callee (f := 28) rfl ?_); refine goesL_ (some 57) rfl rfl Try.func28 (by kernel_rfl) rfl #[.agg #[.int .i64 t490, .int .i64 t491, .int .i64 t492, .int .i64 t493, .int .i64 t494, .slice Ao38 t495.length co38]] rfl (by (try simp only [List.map_toArray, List.map_cons, List.map_nil]); first | done | rfl | (simp only [List.length_drop, List.length_take]; rfl)) ?_; (with_reducible refine (wire_Pack.calls kj11 t490 t491 t492 t493 t494 _ _ t495 t500 t503 _ ?side1 ?side2 A30.out).mono ?_); (case side1 => refine (Kd.R_reads' (e := 5) (base := w.heap.size) (ok := fun k_ => True) (n := t495.length) (c := co38) ?_).2.2; exact (by (with_reducible repeat (first | apply Kd.R_alloc | apply Kd.R_drewN | apply Kd.R_drew)); exact (Kd.R_mono (Kd.R_far (p := ⟨gb499, 5, none⟩) (Kd.R_far (p := ⟨gb499, 4, none⟩) (Kd.R_far (p := ⟨gb499, 3, none⟩) (Kd.R_far (p := ⟨gb499, 2, none⟩) (Kd.R_far (p := ⟨gb499, 1, none⟩) (Kd.R_far (p := ⟨gb499, 0, none⟩) (Kd.R_types HO497.out BK499.out (by decide)) (fun _ hk => hk.2) (.int .i64 t490)) (fun _ hk => hk.2) (.int .i64 t491)) (fun _ hk => hk.2) (.int .i64 t492)) (fun _ hk => hk.2) (.int .i64 t493)) (fun _ hk => hk.2) (.int .i64 t494)) (fun _ hk => hk.2) (.slice Ao38 t495.length co38)) (fun _ h_ => h_.1)))); (case side2 => exact (Kd.R_reads' HO497.out).2.1); rintro e w39 ⟨v501, rfl, ho0, hb⟩; refine ⟨_, rfl, ?_⟩; have n0_ := Aside0.mk (Kd.R_elder' (by (with_reducible repeat (first | apply Kd.R_alloc | apply Kd.R_drewN | apply Kd.R_drew)); exact (Kd.R_mono (Kd.R_far (p := ⟨gb499, 5, none⟩) (Kd.R_far (p := ⟨gb499, 4, none⟩) (Kd.R_far (p := ⟨gb499, 3, none⟩) (Kd.R_far (p := ⟨gb499, 2, none⟩) (Kd.R_far (p := ⟨gb499, 1, none⟩) (Kd.R_far (p := ⟨gb499, 0, none⟩) (Kd.R_types HO497.out BK499.out (by decide)) (fun _ hk => hk.2) (.int .i64 t490)) (fun _ hk => hk.2) (.int .i64 t491)) (fun _ hk => hk.2) (.int .i64 t492)) (fun _ hk => hk.2) (.int .i64 t493)) (fun _ hk => hk.2) (.int .i64 t494)) (fun _ hk => hk.2) (.slice Ao38 t495.length co38)) (fun _ h_ => h_.1))) (Kd.R_base ho0) hb); have n1_ := Aside0.mk (Kd.R_lower (Kd.R_new' ho0 (Kd.R_lt (by (with_reducible repeat (first | apply Kd.R_alloc | apply Kd.R_drewN | apply Kd.R_drew)); exact (Kd.R_mono (Kd.R_far (p := ⟨gb499, 5, none⟩) (Kd.R_far (p := ⟨gb499, 4, none⟩) (Kd.R_far (p := ⟨gb499, 3, none⟩) (Kd.R_far (p := ⟨gb499, 2, none⟩) (Kd.R_far (p := ⟨gb499, 1, none⟩) (Kd.R_far (p := ⟨gb499, 0, none⟩) (Kd.R_types HO497.out BK499.out (by decide)) (fun _ hk => hk.2) (.int .i64 t490)) (fun _ hk => hk.2) (.int .i64 t491)) (fun _ hk => hk.2) (.int .i64 t492)) (fun _ hk => hk.2) (.int .i64 t493)) (fun _ hk => hk.2) (.int .i64 t494)) (fun _ hk => hk.2) (.slice Ao38 t495.length co38)) (fun _ h_ => h_.1))))) (below_size (by repeat (first | (with_reducible first | exact HB.out | apply below_alloc | apply pw_below_drewN | apply below_drew1 | refine below_set ?_ GE473.out | refine below_set ?_ GE499.out) | exact HB.out)))); have n2_ := Aside0.mk (blk_below (g := gb473) (o := .cells #[.int .i64 a0_0, .int .i64 a0_1, .int .i64 a0_2, .int .i64 a0_3, .int .i64 a0_4, .slice A0_5 l0_5.length c0_5] 24 (0, 0)) (by (with_reducible repeat (first | refine blk_drewN ?_ _ | refine blk_drew ?_ | refine blk_alloc ?_ _)); refine blk_far ?_ NB473_499.out _; (with_reducible repeat (first | refine blk_drewN ?_ _ | refine blk_drew ?_ | refine blk_alloc ?_ _)); refine blk_far ?_ NB473_499.out _; (with_reducible repeat (first | refine blk_drewN ?_ _ | refine blk_drew ?_ | refine blk_alloc ?_ _)); refine blk_far ?_ NB473_499.out _; (with_reducible repeat (first | refine blk_drewN ?_ _ | refine blk_drew ?_ | refine blk_alloc ?_ _)); refine blk_far ?_ NB473_499.out _; (with_reducible repeat (first | refine blk_drewN ?_ _ | refine blk_drew ?_ | refine blk_alloc ?_ _)); refine blk_far ?_ NB473_499.out _; (with_reducible repeat (first | refine blk_drewN ?_ _ | refine blk_drew ?_ | refine blk_alloc ?_ _)); refine blk_far ?_ NB473_499.out _; (with_reducible repeat (first | refine blk_drewN ?_ _ | refine blk_drew ?_ | refine blk_alloc ?_ _)); exact BK473.out) hb); have n3_ := Aside0.mk (blk_below (g := gb499) (o := .cells #[.int .i64 t490, .int .i64 t491, .int .i64 t492, .int .i64 t493, .int .i64 t494, .slice Ao38 t495.length co38] 24 (0, 0)) (by (with_reducible repeat (first | refine blk_drewN ?_ _ | refine blk_drew ?_ | refine blk_alloc ?_ _)); refine blk_put (cs := #[.int .i64 t490, .int .i64 t491, .int .i64 t492, .int .i64 t493, .int .i64 t494, .slice none 0 0]) ?_ 5 _ rfl; (with_reducible repeat (first | refine blk_drewN ?_ _ | refine blk_drew ?_ | refine blk_alloc ?_ _)); refine blk_put (cs := #[.int .i64 t490, .int .i64 t491, .int .i64 t492, .int .i64 t493, .int .i64 0, .slice none 0 0]) ?_ 4 _ rfl; (with_reducible repeat (first | refine blk_drewN ?_ _ | refine blk_drew ?_ | refine blk_alloc ?_ _)); refine blk_put (cs := #[.int .i64 t490, .int .i64 t491, .int .i64 t492, .int .i64 0, .int .i64 0, .slice none 0 0]) ?_ 3 _ rfl; (with_reducible repeat (first | refine blk_drewN ?_ _ | refine blk_drew ?_ | refine blk_alloc ?_ _)); refine blk_put (cs := #[.int .i64 t490, .int .i64 t491, .int .i64 0, .int .i64 0, .int .i64 0, .slice none 0 0]) ?_ 2 _ rfl; (with_reducible repeat (first | refine blk_drewN ?_ _ | refine blk_drew ?_ | refine blk_alloc ?_ _)); refine blk_put (cs := #[.int .i64 t490, .int .i64 0, .int .i64 0, .int .i64 0, .int .i64 0, .slice none 0 0]) ?_ 1 _ rfl; (with_reducible repeat (first | refine blk_drewN ?_ _ | refine blk_drew ?_ | refine blk_alloc ?_ _)); refine blk_put (cs := #[.int .i64 0, .int .i64 0, .int .i64 0, .int .i64 0, .int .i64 0, .slice none 0 0]) ?_ 0 _ rfl; (with_reducible repeat (first | refine blk_drewN ?_ _ | refine blk_drew ?_ | refine blk_alloc ?_ _)); exact BK499.out) hb); have n4_ := Aside0.mk (below_step (by repeat (first | (with_reducible first | exact HB.out | apply below_alloc | apply pw_below_drewN | apply below_drew1 | refine below_set ?_ GE473.out | refine below_set ?_ GE499.out) | exact HB.out)) hb); clear HO497; clear BK473; clear BK499; clear HB; have HO497 := n0_; have HO502 := n1_; have BK473 := n2_; have BK499 := n3_; have HB := n4_; clear n0_ n1_ n2_ n3_ n4_; (try clear hb); (try clear hb2); (try clear hk); (try clear hi); (try clear ho0); obtain ⟨Ao40, co40, eo40⟩ := Kd.R_slice HO502.out; subst eo40) | (go_at_call 21; (with_reducible refine (slotmeshref04_Same.calls kj11 _ _ t500 _ _ l1 t504 _ ?side1 ?side2 ?side3 ?side4 A33.out).mono ?_); (case side1 => repeat (first | exact (Kd.R_reads' HO502.out).2.2 | (with_reducible refine Kd.C_alloc ?_ _) | (with_reducible refine Kd.C_drewN ?_ _) | (with_reducible refine Kd.C_drew ?_))); (case side2 => exact (Kd.R_reads' HO502.out).2.1); (case side3 => repeat (first | exact (Kd.C_below HR1.out HB.out) | (with_reducible refine Kd.C_alloc ?_ _) | (with_reducible refine Kd.C_drewN ?_ _) | (with_reducible refine Kd.C_drew ?_))); (case side4 => exact HC1.out); rintro e w' ⟨rfl, ⟨nd, rfl⟩⟩))
                  go_ret
                  exact ⟨by first | rfl | (simp [errW_none, errW_some] <;> rfl) | (simp [*, errW_none, errW_some] <;> rfl), by repeat (first | (with_reducible first | exact HB.out | apply below_alloc | apply pw_below_drewN | apply below_drew1 | refine below_set ?_ GE473.out | refine below_set ?_ GE499.out) | exact HB.out)⟩
                · rw [if_neg c32] at H
                  exact absurd H (by simp)
              · replace c31 := Bool.eq_false_iff.mpr c31
                subst c31
                have H1 : (none) = some r := by rw [if_neg (show ¬ (false = true) by decide)] at H; exact H
                clear H
                have H := H1
                clear H1
                exact absurd H (by simp)
            · rw [if_neg c29] at H
              have c29b0 : (t498 == 0) = false := beq_eq_false_iff_ne.mpr c29
              have c29b1 : (t498 != 0) = true := bne_iff_ne.mpr c29
              obtain rfl := Option.some.inj H
              go_wp2_with (first | ((with_reducible refine gate_callee (f := 30) rfl ?_); refine goesL_ (some 49) rfl rfl Try.func30 (by kernel_rfl) rfl #[.slice A1 l1.length c1] rfl (by (try simp only [List.map_toArray, List.map_cons, List.map_nil]); first | done | rfl | (simp only [List.length_drop, List.length_take]; rfl)) ?_; (with_reducible refine (wire_Unpack.calls kj11 _ _ l1 t490 t491 t492 t493 t494 t495 t498 _ ?side1 ?side2 A28.out).mono ?_); (case side1 => repeat (first | exact (Kd.C_below HR1.out HB.out) | (with_reducible refine Kd.C_alloc ?_ _) | (with_reducible refine Kd.C_drewN ?_ _) | (with_reducible refine Kd.C_drew ?_))); (case side2 => exact HC1.out); rintro e w41 ⟨v496, rfl, ho0, hb⟩; refine ⟨_, rfl, ?_⟩; have n0_ := Aside0.mk (Kd.R_lower ho0 (below_size (by repeat (first | (with_reducible first | exact HB.out | apply below_alloc | apply pw_below_drewN | apply below_drew1 | refine below_set ?_ GE473.out) | exact HB.out)))); have n1_ := Aside0.mk (blk_below (g := gb473) (o := .cells #[.int .i64 a0_0, .int .i64 a0_1, .int .i64 a0_2, .int .i64 a0_3, .int .i64 a0_4, .slice A0_5 l0_5.length c0_5] 24 (0, 0)) (by (with_reducible repeat (first | refine blk_drewN ?_ _ | refine blk_drew ?_ | refine blk_alloc ?_ _)); exact BK473.out) hb); have n2_ := Aside0.mk (below_step (by repeat (first | (with_reducible first | exact HB.out | apply below_alloc | apply pw_below_drewN | apply below_drew1 | refine below_set ?_ GE473.out) | exact HB.out)) hb); clear BK473; clear HB; have HO497 := n0_; have BK473 := n1_; have HB := n2_; clear n0_ n1_ n2_; (try clear hb); (try clear hb2); (try clear hk); (try clear hi); (try clear ho0)) | ((with_reducible refine gate_dst (N := 10) rfl ?_); (try (refine gate_guard (by rfl) ?_; dsimp only)); refine box_event ?hg (N := 10) ?hd (cs := #[.int .i64 0, .int .i64 0, .int .i64 0, .int .i64 0, .int .i64 0, .slice none 0 0]) (t := 24) ?hr ?_; (case hd => rfl); (case hg => rfl); (case hr => first | (go_simp; done) | (go_simp; rfl)); intro gb499 hg w42 hbox hb; have n0_ := Aside0.mk (Kd.R_below (by (with_reducible repeat (first | apply Kd.R_alloc | apply Kd.R_drewN | apply Kd.R_drew)); exact HO497.out) hb); have n1_ := Aside0.mk (blk_below (g := gb473) (o := .cells #[.int .i64 a0_0, .int .i64 a0_1, .int .i64 a0_2, .int .i64 a0_3, .int .i64 a0_4, .slice A0_5 l0_5.length c0_5] 24 (0, 0)) (by (with_reducible repeat (first | refine blk_drewN ?_ _ | refine blk_drew ?_ | refine blk_alloc ?_ _)); exact BK473.out) hb); have n2_ := Aside0.mk (below_step (by repeat (first | (with_reducible first | exact HB.out | apply below_alloc | apply pw_below_drewN | apply below_drew1 | refine below_set ?_ GE473.out) | exact HB.out)) hb); have n3_ := Aside0.mk (hbox); have n4_ := Aside0.mk ((by rw [hg]; exact (below_size (by repeat (first | (with_reducible first | exact HB.out | apply below_alloc | apply pw_below_drewN | apply below_drew1 | refine below_set ?_ GE473.out) | exact HB.out))) : w.heap.size ≤ gb499)); have n5_ := Aside0.mk ((by rw [hg]; exact (below_size (by repeat (first | (with_reducible first | exact HB.out | apply below_alloc | apply pw_below_drewN | apply below_drew1 | refine below_set ?_ GE473.out) | exact HB.out))) : w.heap.size ≤ gb499)); have n6_ := Aside0.mk ((by rw [hg]; exact Nat.ne_of_lt (blk_lt (g := gb473) (o := .cells #[.int .i64 a0_0, .int .i64 a0_1, .int .i64 a0_2, .int .i64 a0_3, .int .i64 a0_4, .slice A0_5 l0_5.length c0_5] 24 (0, 0)) (by (with_reducible repeat (first | refine blk_drewN ?_ _ | refine blk_drew ?_ | refine blk_alloc ?_ _)); exact BK473.out)) : gb473 ≠ gb499)); have n7_ := Aside0.mk ((by rw [hg]; exact Nat.ne_of_gt (blk_lt (g := gb473) (o := .cells #[.int .i64 a0_0, .int .i64 a0_1, .int .i64 a0_2, .int .i64 a0_3, .int .i64 a0_4, .slice A0_5 l0_5.length c0_5] 24 (0, 0)) (by (with_reducible repeat (first | refine blk_drewN ?_ _ | refine blk_drew ?_ | refine blk_alloc ?_ _)); exact BK473.out)) : gb499 ≠ gb473)); clear HO497; clear BK473; clear HB; have HO497 := n0_; have BK473 := n1_; have HB := n2_; have BK499 := n3_; have GW499 := n4_; have GE499 := n5_; have NB473_499 := n6_; have NB499_473 := n7_; clear n0_ n1_ n2_ n3_ n4_ n5_ n6_ n7_; clear hb hbox hg; have hnb43 := NB499_473.out; have hnc43 := NB473_499.out; have hcz44_0 : w42.cell? ⟨gb499, 0, none⟩ = some (.int .i64 0) := (blk_cell BK499.out 0).trans rfl; have hcz44_1 : w42.cell? ⟨gb499, 1, none⟩ = some (.int .i64 0) := (blk_cell BK499.out 1).trans rfl; have hcz44_2 : w42.cell? ⟨gb499, 2, none⟩ = some (.int .i64 0) := (blk_cell BK499.out 2).trans rfl; have hcz44_3 : w42.cell? ⟨gb499, 3, none⟩ = some (.int .i64 0) := (blk_cell BK499.out 3).trans rfl; have hcz44_4 : w42.cell? ⟨gb499, 4, none⟩ = some (.int .i64 0) := (blk_cell BK499.out 4).trans rfl; have hcz44_5 : w42.cell? ⟨gb499, 5, none⟩ = some (.slice none 0 0) := (blk_cell BK499.out 5).trans rfl; have hfz44_0 := blk_frozen BK499.out 0; have hfz44_1 := blk_frozen BK499.out 1; have hfz44_2 := blk_frozen BK499.out 2; have hfz44_3 := blk_frozen BK499.out 3; have hfz44_4 := blk_frozen BK499.out 4; have hfz44_5 := blk_frozen BK499.out 5; obtain ⟨Ao45, co45, eo45⟩ := Kd.R_slice HO497.out; subst eo45))
              go_ret
              exact ⟨by first | rfl | (simp [errW_none, errW_some] <;> rfl) | (simp [*, errW_none, errW_some] <;> rfl), by repeat (first | (with_reducible first | exact HB.out | apply below_alloc | apply pw_below_drewN | apply below_drew1 | refine below_set ?_ GE473.out | refine below_set ?_ GE499.out) | exact HB.out)⟩

/-! ### slotmeshlaw04_pick: function 33 -/
def slotmeshlaw04_pick.f (a0 : Int) (a1 : Int) : Option (Int) := if a0 < 0 then (if a1 = 0 then (none) else (some (Int.tmod (wrap64 (-(wrap64 (a0 + 1)))) a1))) else (if a1 = 0 then (none) else (some (Int.tmod a0 a1)))
set_option maxHeartbeats 8000000 in
set_option maxRecDepth 100000 in
theorem slotmeshlaw04_pick.calls (a0 : Int) (a1 : Int) (r : Int) (w : World) (h : slotmeshlaw04_pick.f a0 a1 = some r) :
    Calls Try.prog 33 #[.int .i64 a0, .int .i64 a1] w fun e w' => e = .returned (.int .i64 r) ∧ Drawn0 w w' := by
  have H : (if a0 < 0 then (if a1 = 0 then (none) else (some (Int.tmod (wrap64 (-(wrap64 (a0 + 1)))) a1))) else (if a1 = 0 then (none) else (some (Int.tmod a0 a1)))) = some r := h
  clear h
  by_cases c3 : a0 < 0
  · rw [if_pos c3] at H
    have c3b0 : decide (a0 < 0) = true := decide_eq_true c3
    clear c3
    by_cases c4 : a1 = 0
    · rw [if_pos c4] at H
      exact absurd H (by simp)
    · rw [if_neg c4] at H
      have c4b0 : (a1 == 0) = false := beq_eq_false_iff_ne.mpr c4
      have c4b1 : (a1 != 0) = true := bne_iff_ne.mpr c4
      obtain rfl := Option.some.inj H
      go_enter Try.func33, Try.ntmps33
      go_wp2
      go_ret
      exact ⟨by first | rfl | (simp; done) | (simp [*]; done), by repeat (first | exact Drawn0.refl _ | apply Drawn0.step)⟩
  · rw [if_neg c3] at H
    have c3b0 : decide (a0 < 0) = false := decide_eq_false c3
    clear c3
    by_cases c5 : a1 = 0
    · rw [if_pos c5] at H
      exact absurd H (by simp)
    · rw [if_neg c5] at H
      have c5b0 : (a1 == 0) = false := beq_eq_false_iff_ne.mpr c5
      have c5b1 : (a1 != 0) = true := bne_iff_ne.mpr c5
      obtain rfl := Option.some.inj H
      go_enter Try.func33, Try.ntmps33
      go_wp2
      go_ret
      exact ⟨by first | rfl | (simp; done) | (simp [*]; done), by repeat (first | exact Drawn0.refl _ | apply Drawn0.step)⟩

-- NOT PRINTED: function 7 (slotmeshlaw04_WireEnds)

end Go.Proofs.Ytanipbjbaalomaa.PWire
