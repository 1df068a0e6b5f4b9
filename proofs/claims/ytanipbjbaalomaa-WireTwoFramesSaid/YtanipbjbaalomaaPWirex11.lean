-- A text of this claim, written by this session's program.
import Derived.Test.YtanipbjbaalomaaPWirex0
import Derived.Test.YtanipbjbaalomaaPWirex1
import Derived.Test.YtanipbjbaalomaaPWirex2
import Derived.Test.YtanipbjbaalomaaPWirex3
import Derived.Test.YtanipbjbaalomaaPWirex4
namespace Go.Proofs.Ytanipbjbaalomaa.PWire
open Go.RowKit Go.Proofs.YtanipbjbaalomaaW.PrintWords Go.Proofs.YtanipbjbaalomaaW.PrintLast Go.Proofs.YtanipbjbaalomaaW.PrintMore
attribute [local go_sem] max2_int min2_int max_two min_two max_three min_three max_four min_four   -- for this text's walks alone
set_option linter.unusedVariables false
set_option linter.unusedSimpArgs false

/-! ### slotmeshlaw04_WireTwoFrames: function 8 -/
mutual
def slotmeshlaw04_WireTwoFrames.j0 : Nat → Bool → Bool → Int → Int → Int → Int → Int → List Int → Int → Int → Int → Int → Int → List Int → Option (Bool)
  | 0, _, _, _, _, _, _, _, _, _, _, _, _, _, _ => none
  | k + 1, x5, x22, x546000, x546001, x546002, x546003, x546004, x546005, x547000, x547001, x547002, x547003, x547004, x547005 => if x22 = true then (some x5) else ((wire_Pack.f k x546000 x546001 x546002 x546003 x546004 x546005).bind fun bt548 => ((wire_Pack.f k x547000 x547001 x547002 x547003 x547004 x547005).bind fun bt552 => (if bt548.2 = 0 then (slotmeshlaw04_WireTwoFrames.j1 k x5 bt548.1 bt552.1 (bt552.2 != 0) x546000 x546001 x546002 x546003 x546004 x546005 x547000 x547001 x547002 x547003 x547004 x547005) else (slotmeshlaw04_WireTwoFrames.j1 k x5 bt548.1 bt552.1 true x546000 x546001 x546002 x546003 x546004 x546005 x547000 x547001 x547002 x547003 x547004 x547005))))
def slotmeshlaw04_WireTwoFrames.j1 : Nat → Bool → List Int → List Int → Bool → Int → Int → Int → Int → Int → List Int → Int → Int → Int → Int → Int → List Int → Option (Bool)
  | 0, _, _, _, _, _, _, _, _, _, _, _, _, _, _, _, _ => none
  | k + 1, x5, x6, x8, x39, x546000, x546001, x546002, x546003, x546004, x546005, x547000, x547001, x547002, x547003, x547004, x547005 => if x39 = true then (some x5) else ((slotmeshref04_SameFrame.f k x546000 x546001 x546002 x546003 x546004 x546005 x547000 x547001 x547002 x547003 x547004 x547005).bind fun t556 => (if x5 = true then ((slotmeshref04_Same.f k x6 x8).bind fun t557 => (if (t557 == t556) = true then (if t556 = true then (some true) else (if 0 ≤ (mn (x6.length : Int) (x8.length : Int)) then (if (mn (x6.length : Int) (x8.length : Int)) ≤ (x6.length : Int) then (if (mn (x6.length : Int) (x8.length : Int)) ≤ (x8.length : Int) then ((slotmeshref04_Same.f k (x6.take ((mn (x6.length : Int) (x8.length : Int)) : Int).toNat) (x8.take ((mn (x6.length : Int) (x8.length : Int)) : Int).toNat)).bind fun t566 => (some (!t566))) else (none)) else (none)) else (none))) else (none))) else (none)))
end
def slotmeshlaw04_WireTwoFrames.f (k : Nat) (a0_0 : Int) (a0_1 : Int) (a0_2 : Int) (a0_3 : Int) (a0_4 : Int) (l0_5 : List Int) (a1_0 : Int) (a1_1 : Int) (a1_2 : Int) (a1_3 : Int) (a1_4 : Int) (l1_5 : List Int) : Option (Bool) := (slotmeshlaw04_head.f k).bind fun t547 => (if (l0_5.length : Int) > 6000 then (slotmeshlaw04_WireTwoFrames.j0 k t547 true a0_0 a0_1 a0_2 a0_3 a0_4 l0_5 a1_0 a1_1 a1_2 a1_3 a1_4 l1_5) else (slotmeshlaw04_WireTwoFrames.j0 k t547 (decide ((l1_5.length : Int) > 6000)) a0_0 a0_1 a0_2 a0_3 a0_4 l0_5 a1_0 a1_1 a1_2 a1_3 a1_4 l1_5))
theorem slotmeshlaw04_WireTwoFrames.mono_l : ∀ k, (∀ y0 y1 y2 y3 y4 y5 y6 y7 y8 y9 y10 y11 y12 y13, LeO (slotmeshlaw04_WireTwoFrames.j0 k y0 y1 y2 y3 y4 y5 y6 y7 y8 y9 y10 y11 y12 y13) (slotmeshlaw04_WireTwoFrames.j0 (k + 1) y0 y1 y2 y3 y4 y5 y6 y7 y8 y9 y10 y11 y12 y13)) ∧ (∀ y0 y1 y2 y3 y4 y5 y6 y7 y8 y9 y10 y11 y12 y13 y14 y15, LeO (slotmeshlaw04_WireTwoFrames.j1 k y0 y1 y2 y3 y4 y5 y6 y7 y8 y9 y10 y11 y12 y13 y14 y15) (slotmeshlaw04_WireTwoFrames.j1 (k + 1) y0 y1 y2 y3 y4 y5 y6 y7 y8 y9 y10 y11 y12 y13 y14 y15))
  | 0 => ⟨fun _ _ _ _ _ _ _ _ _ _ _ _ _ _ r h => by simp [slotmeshlaw04_WireTwoFrames.j0] at h, fun _ _ _ _ _ _ _ _ _ _ _ _ _ _ _ _ r h => by simp [slotmeshlaw04_WireTwoFrames.j1] at h⟩
  | k + 1 => by
    obtain ⟨ih0, ih1⟩ := slotmeshlaw04_WireTwoFrames.mono_l k
    refine ⟨?_, ?_⟩
    · intro y0 y1 y2 y3 y4 y5 y6 y7 y8 y9 y10 y11 y12 y13
      unfold slotmeshlaw04_WireTwoFrames.j0
      repeat' first
      | (with_reducible exact ih0 _ _ _ _ _ _ _ _ _ _ _ _ _ _)
      | (with_reducible exact ih1 _ _ _ _ _ _ _ _ _ _ _ _ _ _ _ _)
      | (with_reducible exact slotmeshlaw04_head.mono _)
      | (with_reducible exact slotmeshref04_Same.mono _ _ _)
      | (with_reducible exact slotmeshref04_SameFrame.mono _ _ _ _ _ _ _ _ _ _ _ _ _)
      | (with_reducible exact wire_Pack.mono _ _ _ _ _ _ _)
      | (with_reducible exact LeO.refl _)
      | (with_reducible exact LeO.none _)
      | (with_reducible refine LeO.ite ?_ ?_)
      | (with_reducible refine LeO.bind ?_ (fun _ => ?_))
      | exact ih0 _ _ _ _ _ _ _ _ _ _ _ _ _ _
      | exact ih1 _ _ _ _ _ _ _ _ _ _ _ _ _ _ _ _
      | exact slotmeshlaw04_head.mono _
      | exact slotmeshref04_Same.mono _ _ _
      | exact slotmeshref04_SameFrame.mono _ _ _ _ _ _ _ _ _ _ _ _ _
      | exact wire_Pack.mono _ _ _ _ _ _ _
      | exact LeO.none _
      | refine LeO.ite ?_ ?_
      | refine LeO.bind ?_ (fun _ => ?_)
    · intro y0 y1 y2 y3 y4 y5 y6 y7 y8 y9 y10 y11 y12 y13 y14 y15
      unfold slotmeshlaw04_WireTwoFrames.j1
      repeat' first
      | (with_reducible exact ih0 _ _ _ _ _ _ _ _ _ _ _ _ _ _)
      | (with_reducible exact ih1 _ _ _ _ _ _ _ _ _ _ _ _ _ _ _ _)
      | (with_reducible exact slotmeshlaw04_head.mono _)
      | (with_reducible exact slotmeshref04_Same.mono _ _ _)
      | (with_reducible exact slotmeshref04_SameFrame.mono _ _ _ _ _ _ _ _ _ _ _ _ _)
      | (with_reducible exact wire_Pack.mono _ _ _ _ _ _ _)
      | (with_reducible exact LeO.refl _)
      | (with_reducible exact LeO.none _)
      | (with_reducible refine LeO.ite ?_ ?_)
      | (with_reducible refine LeO.bind ?_ (fun _ => ?_))
      | exact ih0 _ _ _ _ _ _ _ _ _ _ _ _ _ _
      | exact ih1 _ _ _ _ _ _ _ _ _ _ _ _ _ _ _ _
      | exact slotmeshlaw04_head.mono _
      | exact slotmeshref04_Same.mono _ _ _
      | exact slotmeshref04_SameFrame.mono _ _ _ _ _ _ _ _ _ _ _ _ _
      | exact wire_Pack.mono _ _ _ _ _ _ _
      | exact LeO.none _
      | refine LeO.ite ?_ ?_
      | refine LeO.bind ?_ (fun _ => ?_)
theorem slotmeshlaw04_WireTwoFrames.mono : ∀ a0 a1 a2 a3 a4 a5 a6 a7 a8 a9 a10 a11 k, LeO (slotmeshlaw04_WireTwoFrames.f k a0 a1 a2 a3 a4 a5 a6 a7 a8 a9 a10 a11) (slotmeshlaw04_WireTwoFrames.f (k + 1) a0 a1 a2 a3 a4 a5 a6 a7 a8 a9 a10 a11) := by
  intro a0 a1 a2 a3 a4 a5 a6 a7 a8 a9 a10 a11 k
  obtain ⟨ih0, ih1⟩ := slotmeshlaw04_WireTwoFrames.mono_l k
  unfold slotmeshlaw04_WireTwoFrames.f
  repeat' first
      | (with_reducible exact ih0 _ _ _ _ _ _ _ _ _ _ _ _ _ _)
      | (with_reducible exact ih1 _ _ _ _ _ _ _ _ _ _ _ _ _ _ _ _)
      | (with_reducible exact slotmeshlaw04_head.mono _)
      | (with_reducible exact slotmeshref04_Same.mono _ _ _)
      | (with_reducible exact slotmeshref04_SameFrame.mono _ _ _ _ _ _ _ _ _ _ _ _ _)
      | (with_reducible exact wire_Pack.mono _ _ _ _ _ _ _)
      | (with_reducible exact LeO.refl _)
      | (with_reducible exact LeO.none _)
      | (with_reducible refine LeO.ite ?_ ?_)
      | (with_reducible refine LeO.bind ?_ (fun _ => ?_))
      | exact ih0 _ _ _ _ _ _ _ _ _ _ _ _ _ _
      | exact ih1 _ _ _ _ _ _ _ _ _ _ _ _ _ _ _ _
      | exact slotmeshlaw04_head.mono _
      | exact slotmeshref04_Same.mono _ _ _
      | exact slotmeshref04_SameFrame.mono _ _ _ _ _ _ _ _ _ _ _ _ _
      | exact wire_Pack.mono _ _ _ _ _ _ _
      | exact LeO.none _
      | refine LeO.ite ?_ ?_
      | refine LeO.bind ?_ (fun _ => ?_)
set_option maxHeartbeats 8000000 in
set_option maxRecDepth 100000 in
theorem slotmeshlaw04_WireTwoFrames.calls (k : Nat) (a0_0 : Int) (a0_1 : Int) (a0_2 : Int) (a0_3 : Int) (a0_4 : Int) (A0_5 : Option Addr) (c0_5 : Nat) (l0_5 : List Int) (a1_0 : Int) (a1_1 : Int) (a1_2 : Int) (a1_3 : Int) (a1_4 : Int) (A1_5 : Option Addr) (c1_5 : Nat) (l1_5 : List Int) (r : Bool) (w : World) (hr0_5 : Kd.C (Kd.int .u8) w A0_5 l0_5.length l0_5) (hc0_5 : l0_5.length ≤ c0_5) (hr1_5 : Kd.C (Kd.int .u8) w A1_5 l1_5.length l1_5) (hc1_5 : l1_5.length ≤ c1_5) (h : slotmeshlaw04_WireTwoFrames.f k a0_0 a0_1 a0_2 a0_3 a0_4 l0_5 a1_0 a1_1 a1_2 a1_3 a1_4 l1_5 = some r) :
    Calls Try.prog 8 #[.agg #[.int .i64 a0_0, .int .i64 a0_1, .int .i64 a0_2, .int .i64 a0_3, .int .i64 a0_4, .slice A0_5 l0_5.length c0_5], .agg #[.int .i64 a1_0, .int .i64 a1_1, .int .i64 a1_2, .int .i64 a1_3, .int .i64 a1_4, .slice A1_5 l1_5.length c1_5]] w fun e w' => e = .returned (.bool r) ∧ Below w.heap.size w w' := by
  have hu24 := Try.underlying24
  have HR0_5 := Aside0.mk hr0_5
  have HC0_5 := Aside0.mk hc0_5
  clear hr0_5 hc0_5
  have HR1_5 := Aside0.mk hr1_5
  have HC1_5 := Aside0.mk hc1_5
  clear hr1_5 hc1_5
  have HB := Aside0.mk (Below.refl w.heap.size w)
  have H : ((slotmeshlaw04_head.f k).bind fun t547 => (if (l0_5.length : Int) > 6000 then (slotmeshlaw04_WireTwoFrames.j0 k t547 true a0_0 a0_1 a0_2 a0_3 a0_4 l0_5 a1_0 a1_1 a1_2 a1_3 a1_4 l1_5) else (slotmeshlaw04_WireTwoFrames.j0 k t547 (decide ((l1_5.length : Int) > 6000)) a0_0 a0_1 a0_2 a0_3 a0_4 l0_5 a1_0 a1_1 a1_2 a1_3 a1_4 l1_5))) = some r := h
  clear h
  replace H := Option.bind_eq_some_iff.mp H
  obtain ⟨t547, A30, H⟩ := H
  replace H : (if (l0_5.length : Int) > 6000 then (slotmeshlaw04_WireTwoFrames.j0 k t547 true a0_0 a0_1 a0_2 a0_3 a0_4 l0_5 a1_0 a1_1 a1_2 a1_3 a1_4 l1_5) else (slotmeshlaw04_WireTwoFrames.j0 k t547 (decide ((l1_5.length : Int) > 6000)) a0_0 a0_1 a0_2 a0_3 a0_4 l0_5 a1_0 a1_1 a1_2 a1_3 a1_4 l1_5)) = some r := H
  have A3 := Aside0.mk A30
  clear A30
  have HC4 := Aside0.mk H
  clear H
  go_enter Try.func8, Try.ntmps8
  go_upto_region 2 with (first | ((with_reducible refine gate_dst (N := 2) rfl ?_); (try (refine gate_guard (by rfl) ?_; dsimp only)); refine box_event ?hg (N := 2) ?hd (cs := #[.int .i64 a0_0, .int .i64 a0_1, .int .i64 a0_2, .int .i64 a0_3, .int .i64 a0_4, .slice A0_5 l0_5.length c0_5]) (t := 24) ?hr ?_; (case hd => rfl); (case hg => rfl); (case hr => first | (go_simp; done) | (go_simp; rfl)); intro gb545 hg w5 hbox hb; have n0_ := Aside0.mk (below_step (by repeat (first | (with_reducible first | exact HB.out | apply below_alloc | apply pw_below_drewN | apply below_drew1) | exact HB.out)) hb); have n1_ := Aside0.mk (hbox); have n2_ := Aside0.mk ((by rw [hg]; exact (below_size (by repeat (first | (with_reducible first | exact HB.out | apply below_alloc | apply pw_below_drewN | apply below_drew1) | exact HB.out))) : w.heap.size ≤ gb545)); have n3_ := Aside0.mk ((by rw [hg]; exact (below_size (by repeat (first | (with_reducible first | exact HB.out | apply below_alloc | apply pw_below_drewN | apply below_drew1) | exact HB.out))) : w.heap.size ≤ gb545)); clear HB; have HB := n0_; have BK545 := n1_; have GW545 := n2_; have GE545 := n3_; clear n0_ n1_ n2_ n3_; clear hb hbox hg) | ((with_reducible refine gate_dst (N := 3) rfl ?_); (try (refine gate_guard (by rfl) ?_; dsimp only)); refine box_event ?hg (N := 3) ?hd (cs := #[.int .i64 a1_0, .int .i64 a1_1, .int .i64 a1_2, .int .i64 a1_3, .int .i64 a1_4, .slice A1_5 l1_5.length c1_5]) (t := 24) ?hr ?_; (case hd => rfl); (case hg => rfl); (case hr => first | (go_simp; done) | (go_simp; rfl)); intro gb546 hg w6 hbox hb; have n0_ := Aside0.mk (blk_below (g := gb545) (o := .cells #[.int .i64 a0_0, .int .i64 a0_1, .int .i64 a0_2, .int .i64 a0_3, .int .i64 a0_4, .slice A0_5 l0_5.length c0_5] 24 (0, 0)) (by (with_reducible repeat (first | refine blk_drewN ?_ _ | refine blk_drew ?_ | refine blk_alloc ?_ _)); exact BK545.out) hb); have n1_ := Aside0.mk (below_step (by repeat (first | (with_reducible first | exact HB.out | apply below_alloc | apply pw_below_drewN | apply below_drew1 | refine below_set ?_ GE545.out) | exact HB.out)) hb); have n2_ := Aside0.mk (hbox); have n3_ := Aside0.mk ((by rw [hg]; exact (below_size (by repeat (first | (with_reducible first | exact HB.out | apply below_alloc | apply pw_below_drewN | apply below_drew1 | refine below_set ?_ GE545.out) | exact HB.out))) : w.heap.size ≤ gb546)); have n4_ := Aside0.mk ((by rw [hg]; exact (below_size (by repeat (first | (with_reducible first | exact HB.out | apply below_alloc | apply pw_below_drewN | apply below_drew1 | refine below_set ?_ GE545.out) | exact HB.out))) : w.heap.size ≤ gb546)); have n5_ := Aside0.mk ((by rw [hg]; exact Nat.ne_of_lt (blk_lt (g := gb545) (o := .cells #[.int .i64 a0_0, .int .i64 a0_1, .int .i64 a0_2, .int .i64 a0_3, .int .i64 a0_4, .slice A0_5 l0_5.length c0_5] 24 (0, 0)) (by (with_reducible repeat (first | refine blk_drewN ?_ _ | refine blk_drew ?_ | refine blk_alloc ?_ _)); exact BK545.out)) : gb545 ≠ gb546)); have n6_ := Aside0.mk ((by rw [hg]; exact Nat.ne_of_gt (blk_lt (g := gb545) (o := .cells #[.int .i64 a0_0, .int .i64 a0_1, .int .i64 a0_2, .int .i64 a0_3, .int .i64 a0_4, .slice A0_5 l0_5.length c0_5] 24 (0, 0)) (by (with_reducible repeat (first | refine blk_drewN ?_ _ | refine blk_drew ?_ | refine blk_alloc ?_ _)); exact BK545.out)) : gb546 ≠ gb545)); clear BK545; clear HB; have BK545 := n0_; have HB := n1_; have BK546 := n2_; have GW546 := n3_; have GE546 := n4_; have NB545_546 := n5_; have NB546_545 := n6_; clear n0_ n1_ n2_ n3_ n4_ n5_ n6_; clear hb hbox hg) | (go_at_call 17; (with_reducible refine (slotmeshlaw04_head.calls k  t547 _ A3.out).mono ?_); rintro e w7 ⟨rfl, hb⟩; have n0_ := Aside0.mk (blk_below (g := gb545) (o := .cells #[.int .i64 a0_0, .int .i64 a0_1, .int .i64 a0_2, .int .i64 a0_3, .int .i64 a0_4, .slice A0_5 l0_5.length c0_5] 24 (0, 0)) (by (with_reducible repeat (first | refine blk_drewN ?_ _ | refine blk_drew ?_ | refine blk_alloc ?_ _)); exact BK545.out) hb); have n1_ := Aside0.mk (blk_below (g := gb546) (o := .cells #[.int .i64 a1_0, .int .i64 a1_1, .int .i64 a1_2, .int .i64 a1_3, .int .i64 a1_4, .slice A1_5 l1_5.length c1_5] 24 (0, 0)) (by (with_reducible repeat (first | refine blk_drewN ?_ _ | refine blk_drew ?_ | refine blk_alloc ?_ _)); exact BK546.out) hb); have n2_ := Aside0.mk (below_step (by repeat (first | (with_reducible first | exact HB.out | apply below_alloc | apply pw_below_drewN | apply below_drew1 | refine below_set ?_ GE545.out | refine below_set ?_ GE546.out) | exact HB.out)) hb); clear BK545; clear BK546; clear HB; have BK545 := n0_; have BK546 := n1_; have HB := n2_; clear n0_ n1_ n2_; (try clear hb); (try clear hb2); (try clear hk); (try clear hi)))
  repeat (go_quiet (first | ((with_reducible refine gate_dst (N := 2) rfl ?_); (try (refine gate_guard (by rfl) ?_; dsimp only)); refine box_event ?hg (N := 2) ?hd (cs := #[.int .i64 a0_0, .int .i64 a0_1, .int .i64 a0_2, .int .i64 a0_3, .int .i64 a0_4, .slice A0_5 l0_5.length c0_5]) (t := 24) ?hr ?_; (case hd => rfl); (case hg => rfl); (case hr => first | (go_simp; done) | (go_simp; rfl)); intro gb545 hg w5 hbox hb; have n0_ := Aside0.mk (below_step (by repeat (first | (with_reducible first | exact HB.out | apply below_alloc | apply pw_below_drewN | apply below_drew1) | exact HB.out)) hb); have n1_ := Aside0.mk (hbox); have n2_ := Aside0.mk ((by rw [hg]; exact (below_size (by repeat (first | (with_reducible first | exact HB.out | apply below_alloc | apply pw_below_drewN | apply below_drew1) | exact HB.out))) : w.heap.size ≤ gb545)); have n3_ := Aside0.mk ((by rw [hg]; exact (below_size (by repeat (first | (with_reducible first | exact HB.out | apply below_alloc | apply pw_below_drewN | apply below_drew1) | exact HB.out))) : w.heap.size ≤ gb545)); clear HB; have HB := n0_; have BK545 := n1_; have GW545 := n2_; have GE545 := n3_; clear n0_ n1_ n2_ n3_; clear hb hbox hg) | ((with_reducible refine gate_dst (N := 3) rfl ?_); (try (refine gate_guard (by rfl) ?_; dsimp only)); refine box_event ?hg (N := 3) ?hd (cs := #[.int .i64 a1_0, .int .i64 a1_1, .int .i64 a1_2, .int .i64 a1_3, .int .i64 a1_4, .slice A1_5 l1_5.length c1_5]) (t := 24) ?hr ?_; (case hd => rfl); (case hg => rfl); (case hr => first | (go_simp; done) | (go_simp; rfl)); intro gb546 hg w6 hbox hb; have n0_ := Aside0.mk (blk_below (g := gb545) (o := .cells #[.int .i64 a0_0, .int .i64 a0_1, .int .i64 a0_2, .int .i64 a0_3, .int .i64 a0_4, .slice A0_5 l0_5.length c0_5] 24 (0, 0)) (by (with_reducible repeat (first | refine blk_drewN ?_ _ | refine blk_drew ?_ | refine blk_alloc ?_ _)); exact BK545.out) hb); have n1_ := Aside0.mk (below_step (by repeat (first | (with_reducible first | exact HB.out | apply below_alloc | apply pw_below_drewN | apply below_drew1 | refine below_set ?_ GE545.out) | exact HB.out)) hb); have n2_ := Aside0.mk (hbox); have n3_ := Aside0.mk ((by rw [hg]; exact (below_size (by repeat (first | (with_reducible first | exact HB.out | apply below_alloc | apply pw_below_drewN | apply below_drew1 | refine below_set ?_ GE545.out) | exact HB.out))) : w.heap.size ≤ gb546)); have n4_ := Aside0.mk ((by rw [hg]; exact (below_size (by repeat (first | (with_reducible first | exact HB.out | apply below_alloc | apply pw_below_drewN | apply below_drew1 | refine below_set ?_ GE545.out) | exact HB.out))) : w.heap.size ≤ gb546)); have n5_ := Aside0.mk ((by rw [hg]; exact Nat.ne_of_lt (blk_lt (g := gb545) (o := .cells #[.int .i64 a0_0, .int .i64 a0_1, .int .i64 a0_2, .int .i64 a0_3, .int .i64 a0_4, .slice A0_5 l0_5.length c0_5] 24 (0, 0)) (by (with_reducible repeat (first | refine blk_drewN ?_ _ | refine blk_drew ?_ | refine blk_alloc ?_ _)); exact BK545.out)) : gb545 ≠ gb546)); have n6_ := Aside0.mk ((by rw [hg]; exact Nat.ne_of_gt (blk_lt (g := gb545) (o := .cells #[.int .i64 a0_0, .int .i64 a0_1, .int .i64 a0_2, .int .i64 a0_3, .int .i64 a0_4, .slice A0_5 l0_5.length c0_5] 24 (0, 0)) (by (with_reducible repeat (first | refine blk_drewN ?_ _ | refine blk_drew ?_ | refine blk_alloc ?_ _)); exact BK545.out)) : gb546 ≠ gb545)); clear BK545; clear HB; have BK545 := n0_; have HB := n1_; have BK546 := n2_; have GW546 := n3_; have GE546 := n4_; have NB545_546 := n5_; have NB546_545 := n6_; clear n0_ n1_ n2_ n3_ n4_ n5_ n6_; clear hb hbox hg) | (go_at_call 17; (with_reducible refine (slotmeshlaw04_head.calls k  t547 _ A3.out).mono ?_); rintro e w7 ⟨rfl, hb⟩; have n0_ := Aside0.mk (blk_below (g := gb545) (o := .cells #[.int .i64 a0_0, .int .i64 a0_1, .int .i64 a0_2, .int .i64 a0_3, .int .i64 a0_4, .slice A0_5 l0_5.length c0_5] 24 (0, 0)) (by (with_reducible repeat (first | refine blk_drewN ?_ _ | refine blk_drew ?_ | refine blk_alloc ?_ _)); exact BK545.out) hb); have n1_ := Aside0.mk (blk_below (g := gb546) (o := .cells #[.int .i64 a1_0, .int .i64 a1_1, .int .i64 a1_2, .int .i64 a1_3, .int .i64 a1_4, .slice A1_5 l1_5.length c1_5] 24 (0, 0)) (by (with_reducible repeat (first | refine blk_drewN ?_ _ | refine blk_drew ?_ | refine blk_alloc ?_ _)); exact BK546.out) hb); have n2_ := Aside0.mk (below_step (by repeat (first | (with_reducible first | exact HB.out | apply below_alloc | apply pw_below_drewN | apply below_drew1 | refine below_set ?_ GE545.out | refine below_set ?_ GE546.out) | exact HB.out)) hb); clear BK545; clear BK546; clear HB; have BK545 := n0_; have BK546 := n1_; have HB := n2_; clear n0_ n1_ n2_; (try clear hb); (try clear hb2); (try clear hk); (try clear hi))); go_upto_region 2 with (first | ((with_reducible refine gate_dst (N := 2) rfl ?_); (try (refine gate_guard (by rfl) ?_; dsimp only)); refine box_event ?hg (N := 2) ?hd (cs := #[.int .i64 a0_0, .int .i64 a0_1, .int .i64 a0_2, .int .i64 a0_3, .int .i64 a0_4, .slice A0_5 l0_5.length c0_5]) (t := 24) ?hr ?_; (case hd => rfl); (case hg => rfl); (case hr => first | (go_simp; done) | (go_simp; rfl)); intro gb545 hg w5 hbox hb; have n0_ := Aside0.mk (below_step (by repeat (first | (with_reducible first | exact HB.out | apply below_alloc | apply pw_below_drewN | apply below_drew1) | exact HB.out)) hb); have n1_ := Aside0.mk (hbox); have n2_ := Aside0.mk ((by rw [hg]; exact (below_size (by repeat (first | (with_reducible first | exact HB.out | apply below_alloc | apply pw_below_drewN | apply below_drew1) | exact HB.out))) : w.heap.size ≤ gb545)); have n3_ := Aside0.mk ((by rw [hg]; exact (below_size (by repeat (first | (with_reducible first | exact HB.out | apply below_alloc | apply pw_below_drewN | apply below_drew1) | exact HB.out))) : w.heap.size ≤ gb545)); clear HB; have HB := n0_; have BK545 := n1_; have GW545 := n2_; have GE545 := n3_; clear n0_ n1_ n2_ n3_; clear hb hbox hg) | ((with_reducible refine gate_dst (N := 3) rfl ?_); (try (refine gate_guard (by rfl) ?_; dsimp only)); refine box_event ?hg (N := 3) ?hd (cs := #[.int .i64 a1_0, .int .i64 a1_1, .int .i64 a1_2, .int .i64 a1_3, .int .i64 a1_4, .slice A1_5 l1_5.length c1_5]) (t := 24) ?hr ?_; (case hd => rfl); (case hg => rfl); (case hr => first | (go_simp; done) | (go_simp; rfl)); intro gb546 hg w6 hbox hb; have n0_ := Aside0.mk (blk_below (g := gb545) (o := .cells #[.int .i64 a0_0, .int .i64 a0_1, .int .i64 a0_2, .int .i64 a0_3, .int .i64 a0_4, .slice A0_5 l0_5.length c0_5] 24 (0, 0)) (by (with_reducible repeat (first | refine blk_drewN ?_ _ | refine blk_drew ?_ | refine blk_alloc ?_ _)); exact BK545.out) hb); have n1_ := Aside0.mk (below_step (by repeat (first | (with_reducible first | exact HB.out | apply below_alloc | apply pw_below_drewN | apply below_drew1 | refine below_set ?_ GE545.out) | exact HB.out)) hb); have n2_ := Aside0.mk (hbox); have n3_ := Aside0.mk ((by rw [hg]; exact (below_size (by repeat (first | (with_reducible first | exact HB.out | apply below_alloc | apply pw_below_drewN | apply below_drew1 | refine below_set ?_ GE545.out) | exact HB.out))) : w.heap.size ≤ gb546)); have n4_ := Aside0.mk ((by rw [hg]; exact (below_size (by repeat (first | (with_reducible first | exact HB.out | apply below_alloc | apply pw_below_drewN | apply below_drew1 | refine below_set ?_ GE545.out) | exact HB.out))) : w.heap.size ≤ gb546)); have n5_ := Aside0.mk ((by rw [hg]; exact Nat.ne_of_lt (blk_lt (g := gb545) (o := .cells #[.int .i64 a0_0, .int .i64 a0_1, .int .i64 a0_2, .int .i64 a0_3, .int .i64 a0_4, .slice A0_5 l0_5.length c0_5] 24 (0, 0)) (by (with_reducible repeat (first | refine blk_drewN ?_ _ | refine blk_drew ?_ | refine blk_alloc ?_ _)); exact BK545.out)) : gb545 ≠ gb546)); have n6_ := Aside0.mk ((by rw [hg]; exact Nat.ne_of_gt (blk_lt (g := gb545) (o := .cells #[.int .i64 a0_0, .int .i64 a0_1, .int .i64 a0_2, .int .i64 a0_3, .int .i64 a0_4, .slice A0_5 l0_5.length c0_5] 24 (0, 0)) (by (with_reducible repeat (first | refine blk_drewN ?_ _ | refine blk_drew ?_ | refine blk_alloc ?_ _)); exact BK545.out)) : gb546 ≠ gb545)); clear BK545; clear HB; have BK545 := n0_; have HB := n1_; have BK546 := n2_; have GW546 := n3_; have GE546 := n4_; have NB545_546 := n5_; have NB546_545 := n6_; clear n0_ n1_ n2_ n3_ n4_ n5_ n6_; clear hb hbox hg) | (go_at_call 17; (with_reducible refine (slotmeshlaw04_head.calls k  t547 _ A3.out).mono ?_); rintro e w7 ⟨rfl, hb⟩; have n0_ := Aside0.mk (blk_below (g := gb545) (o := .cells #[.int .i64 a0_0, .int .i64 a0_1, .int .i64 a0_2, .int .i64 a0_3, .int .i64 a0_4, .slice A0_5 l0_5.length c0_5] 24 (0, 0)) (by (with_reducible repeat (first | refine blk_drewN ?_ _ | refine blk_drew ?_ | refine blk_alloc ?_ _)); exact BK545.out) hb); have n1_ := Aside0.mk (blk_below (g := gb546) (o := .cells #[.int .i64 a1_0, .int .i64 a1_1, .int .i64 a1_2, .int .i64 a1_3, .int .i64 a1_4, .slice A1_5 l1_5.length c1_5] 24 (0, 0)) (by (with_reducible repeat (first | refine blk_drewN ?_ _ | refine blk_drew ?_ | refine blk_alloc ?_ _)); exact BK546.out) hb); have n2_ := Aside0.mk (below_step (by repeat (first | (with_reducible first | exact HB.out | apply below_alloc | apply pw_below_drewN | apply below_drew1 | refine below_set ?_ GE545.out | refine below_set ?_ GE546.out) | exact HB.out)) hb); clear BK545; clear BK546; clear HB; have BK545 := n0_; have BK546 := n1_; have HB := n2_; clear n0_ n1_ n2_; (try clear hb); (try clear hb2); (try clear hk); (try clear hi))))
  (try simp only [Act.put, List.setIfInBounds_toArray, List.set_cons_zero, List.set_cons_succ])
  go_cut [22] (fun v22 wc => ∃ (kq : Nat) (x22_3 : Bool), v22 = .bool x22_3 ∧ Aside0 (slotmeshlaw04_WireTwoFrames.j0 kq t547 x22_3 a0_0 a0_1 a0_2 a0_3 a0_4 l0_5 a1_0 a1_1 a1_2 a1_3 a1_4 l1_5 = some r) ∧ Aside0 (kq ≤ k) ∧ Aside0 (wc.heap[gb545]? = some (.cells #[.int .i64 a0_0, .int .i64 a0_1, .int .i64 a0_2, .int .i64 a0_3, .int .i64 a0_4, (.slice A0_5 l0_5.length c0_5)] 24 (0, 0))) ∧ Aside0 (wc.heap[gb546]? = some (.cells #[.int .i64 a1_0, .int .i64 a1_1, .int .i64 a1_2, .int .i64 a1_3, .int .i64 a1_4, (.slice A1_5 l1_5.length c1_5)] 24 (0, 0))) ∧ Aside0 (Below w.heap.size w wc))
  case first =>
    have H := HC4.out
    clear HC4
    by_cases c8 : (l0_5.length : Int) > 6000
    · rw [if_pos c8] at H
      have c8b0 : decide (6000 < (l0_5.length : Int)) = true := decide_eq_true c8
      have c8b1 : decide (6000 < l0_5.length) = true := decide_eq_true (by omega)
      clear c8
      (first | rw [c8b0] | (simp only [i64_w, i32_w]; rw [c8b0]) | skip)
      have H' := Aside0.mk H
      clear H
      have hnb9 := NB545_546.out
      have hnc9 := NB546_545.out
      have hcz10_0 : w7.cell? ⟨gb545, 0, none⟩ = some (.int .i64 a0_0) := (blk_cell BK545.out 0).trans rfl
      have hcz10_1 : w7.cell? ⟨gb545, 1, none⟩ = some (.int .i64 a0_1) := (blk_cell BK545.out 1).trans rfl
      have hcz10_2 : w7.cell? ⟨gb545, 2, none⟩ = some (.int .i64 a0_2) := (blk_cell BK545.out 2).trans rfl
      have hcz10_3 : w7.cell? ⟨gb545, 3, none⟩ = some (.int .i64 a0_3) := (blk_cell BK545.out 3).trans rfl
      have hcz10_4 : w7.cell? ⟨gb545, 4, none⟩ = some (.int .i64 a0_4) := (blk_cell BK545.out 4).trans rfl
      have hcz10_5 : w7.cell? ⟨gb545, 5, none⟩ = some (.slice A0_5 l0_5.length c0_5) := (blk_cell BK545.out 5).trans rfl
      have hfz10_0 := blk_frozen BK545.out 0
      have hfz10_1 := blk_frozen BK545.out 1
      have hfz10_2 := blk_frozen BK545.out 2
      have hfz10_3 := blk_frozen BK545.out 3
      have hfz10_4 := blk_frozen BK545.out 4
      have hfz10_5 := blk_frozen BK545.out 5
      go_wp2
      repeat (go_quiet (fail); try go_wp2)
      go_meet
      case rel => exact ⟨_, (true), (by first | rfl | (simp; done) | (simp [*]; done)), H', ⟨by first | omega | exact Nat.le_refl _⟩, ⟨by (with_reducible repeat (first | refine blk_drewN ?_ _ | refine blk_drew ?_ | refine blk_alloc ?_ _)); exact BK545.out⟩, ⟨by (with_reducible repeat (first | refine blk_drewN ?_ _ | refine blk_drew ?_ | refine blk_alloc ?_ _)); exact BK546.out⟩, ⟨by repeat (first | (with_reducible first | exact HB.out | apply below_alloc | apply pw_below_drewN | apply below_drew1 | refine below_set ?_ GE545.out | refine below_set ?_ GE546.out) | exact HB.out)⟩⟩
    · rw [if_neg c8] at H
      have c8b0 : decide (6000 < (l0_5.length : Int)) = false := decide_eq_false c8
      have c8b1 : decide (6000 < l0_5.length) = false := decide_eq_false (by omega)
      clear c8
      (first | rw [c8b0] | (simp only [i64_w, i32_w]; rw [c8b0]) | skip)
      have H' := Aside0.mk H
      clear H
      have hnb11 := NB545_546.out
      have hnc11 := NB546_545.out
      have hcz12_0 : w7.cell? ⟨gb545, 0, none⟩ = some (.int .i64 a0_0) := (blk_cell BK545.out 0).trans rfl
      have hcz12_1 : w7.cell? ⟨gb545, 1, none⟩ = some (.int .i64 a0_1) := (blk_cell BK545.out 1).trans rfl
      have hcz12_2 : w7.cell? ⟨gb545, 2, none⟩ = some (.int .i64 a0_2) := (blk_cell BK545.out 2).trans rfl
      have hcz12_3 : w7.cell? ⟨gb545, 3, none⟩ = some (.int .i64 a0_3) := (blk_cell BK545.out 3).trans rfl
      have hcz12_4 : w7.cell? ⟨gb545, 4, none⟩ = some (.int .i64 a0_4) := (blk_cell BK545.out 4).trans rfl
      have hcz12_5 : w7.cell? ⟨gb545, 5, none⟩ = some (.slice A0_5 l0_5.length c0_5) := (blk_cell BK545.out 5).trans rfl
      have hfz12_0 := blk_frozen BK545.out 0
      have hfz12_1 := blk_frozen BK545.out 1
      have hfz12_2 := blk_frozen BK545.out 2
      have hfz12_3 := blk_frozen BK545.out 3
      have hfz12_4 := blk_frozen BK545.out 4
      have hfz12_5 := blk_frozen BK545.out 5
      have hcz13_0 : w7.cell? ⟨gb546, 0, none⟩ = some (.int .i64 a1_0) := (blk_cell BK546.out 0).trans rfl
      have hcz13_1 : w7.cell? ⟨gb546, 1, none⟩ = some (.int .i64 a1_1) := (blk_cell BK546.out 1).trans rfl
      have hcz13_2 : w7.cell? ⟨gb546, 2, none⟩ = some (.int .i64 a1_2) := (blk_cell BK546.out 2).trans rfl
      have hcz13_3 : w7.cell? ⟨gb546, 3, none⟩ = some (.int .i64 a1_3) := (blk_cell BK546.out 3).trans rfl
      have hcz13_4 : w7.cell? ⟨gb546, 4, none⟩ = some (.int .i64 a1_4) := (blk_cell BK546.out 4).trans rfl
      have hcz13_5 : w7.cell? ⟨gb546, 5, none⟩ = some (.slice A1_5 l1_5.length c1_5) := (blk_cell BK546.out 5).trans rfl
      have hfz13_0 := blk_frozen BK546.out 0
      have hfz13_1 := blk_frozen BK546.out 1
      have hfz13_2 := blk_frozen BK546.out 2
      have hfz13_3 := blk_frozen BK546.out 3
      have hfz13_4 := blk_frozen BK546.out 4
      have hfz13_5 := blk_frozen BK546.out 5
      go_wp2
      repeat (go_quiet (fail); try go_wp2)
      go_meet
      case rel => exact ⟨_, (decide ((l1_5.length : Int) > 6000)), (by first | rfl | (simp; done) | (simp [*]; done)), H', ⟨by first | omega | exact Nat.le_refl _⟩, ⟨by (with_reducible repeat (first | refine blk_drewN ?_ _ | refine blk_drew ?_ | refine blk_alloc ?_ _)); exact BK545.out⟩, ⟨by (with_reducible repeat (first | refine blk_drewN ?_ _ | refine blk_drew ?_ | refine blk_alloc ?_ _)); exact BK546.out⟩, ⟨by repeat (first | (with_reducible first | exact HB.out | apply below_alloc | apply pw_below_drewN | apply below_drew1 | refine below_set ?_ GE545.out | refine below_set ?_ GE546.out) | exact HB.out)⟩⟩
  case rest =>
    clear HC4
    try clear c1
    try clear p2
    try clear c8
    try clear c8b0
    try clear c8b1
    try clear c9
    try clear c11
    try clear hcz10_0
    try clear hcz10_1
    try clear hcz10_2
    try clear hcz10_3
    try clear hcz10_4
    try clear hcz10_5
    try clear hcz12_0
    try clear hcz12_1
    try clear hcz12_2
    try clear hcz12_3
    try clear hcz12_4
    try clear hcz12_5
    try clear hcz13_0
    try clear hcz13_1
    try clear hcz13_2
    try clear hcz13_3
    try clear hcz13_4
    try clear hcz13_5
    try clear hfz10_0
    try clear hfz10_1
    try clear hfz10_2
    try clear hfz10_3
    try clear hfz10_4
    try clear hfz10_5
    try clear hfz12_0
    try clear hfz12_1
    try clear hfz12_2
    try clear hfz12_3
    try clear hfz12_4
    try clear hfz12_5
    try clear hfz13_0
    try clear hfz13_1
    try clear hfz13_2
    try clear hfz13_3
    try clear hfz13_4
    try clear hfz13_5
    obtain ⟨kq, x22_3, rfl, HA, HJ3, BK545, BK546, HB⟩ := hcut
    cases kq with
    | zero => exact absurd HA.out (by simp [slotmeshlaw04_WireTwoFrames.j0])
    | succ kj3 =>
      have H := HA.out
      clear HA
      simp only [slotmeshlaw04_WireTwoFrames.j0] at H
      by_cases c14 : x22_3 = true
      · subst c14
        have H1 : (some t547) = some r := by rw [if_pos rfl] at H; exact H
        clear H
        have H := H1
        clear H1
        obtain rfl := Option.some.inj H
        go_wp2
        repeat (go_quiet (fail); try go_wp2)
        go_ret
        exact ⟨by first | rfl | (simp [errW_none, errW_some] <;> rfl) | (simp [*, errW_none, errW_some] <;> rfl), by repeat (first | (with_reducible first | exact HB.out | apply below_alloc | apply pw_below_drewN | apply below_drew1 | refine below_set ?_ GE545.out | refine below_set ?_ GE546.out) | exact HB.out)⟩
      · replace c14 := Bool.eq_false_iff.mpr c14
        subst c14
        have H1 : ((wire_Pack.f kj3 a0_0 a0_1 a0_2 a0_3 a0_4 l0_5).bind fun bt548 => ((wire_Pack.f kj3 a1_0 a1_1 a1_2 a1_3 a1_4 l1_5).bind fun bt552 => (if bt548.2 = 0 then (slotmeshlaw04_WireTwoFrames.j1 kj3 t547 bt548.1 bt552.1 (bt552.2 != 0) a0_0 a0_1 a0_2 a0_3 a0_4 l0_5 a1_0 a1_1 a1_2 a1_3 a1_4 l1_5) else (slotmeshlaw04_WireTwoFrames.j1 kj3 t547 bt548.1 bt552.1 true a0_0 a0_1 a0_2 a0_3 a0_4 l0_5 a1_0 a1_1 a1_2 a1_3 a1_4 l1_5)))) = some r := by rw [if_neg (show ¬ (false = true) by decide)] at H; exact H
        clear H
        have H := H1
        clear H1
        replace H := Option.bind_eq_some_iff.mp H
        obtain ⟨⟨t548, t551⟩, A150, H⟩ := H
        replace H : ((wire_Pack.f kj3 a1_0 a1_1 a1_2 a1_3 a1_4 l1_5).bind fun bt552 => (if t551 = 0 then (slotmeshlaw04_WireTwoFrames.j1 kj3 t547 t548 bt552.1 (bt552.2 != 0) a0_0 a0_1 a0_2 a0_3 a0_4 l0_5 a1_0 a1_1 a1_2 a1_3 a1_4 l1_5) else (slotmeshlaw04_WireTwoFrames.j1 kj3 t547 t548 bt552.1 true a0_0 a0_1 a0_2 a0_3 a0_4 l0_5 a1_0 a1_1 a1_2 a1_3 a1_4 l1_5))) = some r := H
        have A15 := Aside0.mk A150
        clear A150
        replace H := Option.bind_eq_some_iff.mp H
        obtain ⟨⟨t552, t555⟩, A160, H⟩ := H
        replace H : (if t551 = 0 then (slotmeshlaw04_WireTwoFrames.j1 kj3 t547 t548 t552 (t555 != 0) a0_0 a0_1 a0_2 a0_3 a0_4 l0_5 a1_0 a1_1 a1_2 a1_3 a1_4 l1_5) else (slotmeshlaw04_WireTwoFrames.j1 kj3 t547 t548 t552 true a0_0 a0_1 a0_2 a0_3 a0_4 l0_5 a1_0 a1_1 a1_2 a1_3 a1_4 l1_5)) = some r := H
        have A16 := Aside0.mk A160
        clear A160
        have HC17 := Aside0.mk H
        clear H
        have hnb18 := NB545_546.out
        have hnc18 := NB546_545.out
        have hcz19_0 : wc.cell? ⟨gb545, 0, none⟩ = some (.int .i64 a0_0) := (blk_cell BK545.out 0).trans rfl
        have hcz19_1 : wc.cell? ⟨gb545, 1, none⟩ = some (.int .i64 a0_1) := (blk_cell BK545.out 1).trans rfl
        have hcz19_2 : wc.cell? ⟨gb545, 2, none⟩ = some (.int .i64 a0_2) := (blk_cell BK545.out 2).trans rfl
        have hcz19_3 : wc.cell? ⟨gb545, 3, none⟩ = some (.int .i64 a0_3) := (blk_cell BK545.out 3).trans rfl
        have hcz19_4 : wc.cell? ⟨gb545, 4, none⟩ = some (.int .i64 a0_4) := (blk_cell BK545.out 4).trans rfl
        have hcz19_5 : wc.cell? ⟨gb545, 5, none⟩ = some (.slice A0_5 l0_5.length c0_5) := (blk_cell BK545.out 5).trans rfl
        have hfz19_0 := blk_frozen BK545.out 0
        have hfz19_1 := blk_frozen BK545.out 1
        have hfz19_2 := blk_frozen BK545.out 2
        have hfz19_3 := blk_frozen BK545.out 3
        have hfz19_4 := blk_frozen BK545.out 4
        have hfz19_5 := blk_frozen BK545.out 5
        go_upto_region 6 with (first | (go_at_call 28; (with_reducible refine (wire_Pack.calls kj3 a0_0 a0_1 a0_2 a0_3 a0_4 _ _ l0_5 t548 t551 _ ?side1 ?side2 A15.out).mono ?_); (case side1 => repeat (first | exact (Kd.C_below HR0_5.out HB.out) | (with_reducible refine Kd.C_alloc ?_ _) | (with_reducible refine Kd.C_drewN ?_ _) | (with_reducible refine Kd.C_drew ?_))); (case side2 => exact HC0_5.out); rintro e w20 ⟨v549, rfl, ho0, hb⟩; have n0_ := Aside0.mk (Kd.R_lower ho0 (below_size (by repeat (first | (with_reducible first | exact HB.out | apply below_alloc | apply pw_below_drewN | apply below_drew1 | refine below_set ?_ GE545.out | refine below_set ?_ GE546.out) | exact HB.out)))); have n1_ := Aside0.mk (blk_below (g := gb545) (o := .cells #[.int .i64 a0_0, .int .i64 a0_1, .int .i64 a0_2, .int .i64 a0_3, .int .i64 a0_4, .slice A0_5 l0_5.length c0_5] 24 (0, 0)) (by (with_reducible repeat (first | refine blk_drewN ?_ _ | refine blk_drew ?_ | refine blk_alloc ?_ _)); exact BK545.out) hb); have n2_ := Aside0.mk (blk_below (g := gb546) (o := .cells #[.int .i64 a1_0, .int .i64 a1_1, .int .i64 a1_2, .int .i64 a1_3, .int .i64 a1_4, .slice A1_5 l1_5.length c1_5] 24 (0, 0)) (by (with_reducible repeat (first | refine blk_drewN ?_ _ | refine blk_drew ?_ | refine blk_alloc ?_ _)); exact BK546.out) hb); have n3_ := Aside0.mk (below_step (by repeat (first | (with_reducible first | exact HB.out | apply below_alloc | apply pw_below_drewN | apply below_drew1 | refine below_set ?_ GE545.out | refine below_set ?_ GE546.out) | exact HB.out)) hb); clear BK545; clear BK546; clear HB; have HO550 := n0_; have BK545 := n1_; have BK546 := n2_; have HB := n3_; clear n0_ n1_ n2_ n3_; (try clear hb); (try clear hb2); (try clear hk); (try clear hi); (try clear ho0); have hcz21_0 : w20.cell? ⟨gb546, 0, none⟩ = some (.int .i64 a1_0) := (blk_cell BK546.out 0).trans rfl; have hcz21_1 : w20.cell? ⟨gb546, 1, none⟩ = some (.int .i64 a1_1) := (blk_cell BK546.out 1).trans rfl; have hcz21_2 : w20.cell? ⟨gb546, 2, none⟩ = some (.int .i64 a1_2) := (blk_cell BK546.out 2).trans rfl; have hcz21_3 : w20.cell? ⟨gb546, 3, none⟩ = some (.int .i64 a1_3) := (blk_cell BK546.out 3).trans rfl; have hcz21_4 : w20.cell? ⟨gb546, 4, none⟩ = some (.int .i64 a1_4) := (blk_cell BK546.out 4).trans rfl; have hcz21_5 : w20.cell? ⟨gb546, 5, none⟩ = some (.slice A1_5 l1_5.length c1_5) := (blk_cell BK546.out 5).trans rfl; have hfz21_0 := blk_frozen BK546.out 0; have hfz21_1 := blk_frozen BK546.out 1; have hfz21_2 := blk_frozen BK546.out 2; have hfz21_3 := blk_frozen BK546.out 3; have hfz21_4 := blk_frozen BK546.out 4; have hfz21_5 := blk_frozen BK546.out 5) | (go_at_call 28; (with_reducible refine (wire_Pack.calls kj3 a1_0 a1_1 a1_2 a1_3 a1_4 _ _ l1_5 t552 t555 _ ?side1 ?side2 A16.out).mono ?_); (case side1 => repeat (first | exact (Kd.C_below HR1_5.out HB.out) | (with_reducible refine Kd.C_alloc ?_ _) | (with_reducible refine Kd.C_drewN ?_ _) | (with_reducible refine Kd.C_drew ?_))); (case side2 => exact HC1_5.out); rintro e w22 ⟨v553, rfl, ho0, hb⟩; have n0_ := Aside0.mk (Kd.R_elder' (by (with_reducible repeat (first | apply Kd.R_alloc | apply Kd.R_drewN | apply Kd.R_drew)); exact HO550.out) (Kd.R_base ho0) hb); have n1_ := Aside0.mk (Kd.R_lower (Kd.R_new' ho0 (Kd.R_lt (by (with_reducible repeat (first | apply Kd.R_alloc | apply Kd.R_drewN | apply Kd.R_drew)); exact HO550.out))) (below_size (by repeat (first | (with_reducible first | exact HB.out | apply below_alloc | apply pw_below_drewN | apply below_drew1 | refine below_set ?_ GE545.out | refine below_set ?_ GE546.out) | exact HB.out)))); have n2_ := Aside0.mk (blk_below (g := gb545) (o := .cells #[.int .i64 a0_0, .int .i64 a0_1, .int .i64 a0_2, .int .i64 a0_3, .int .i64 a0_4, .slice A0_5 l0_5.length c0_5] 24 (0, 0)) (by (with_reducible repeat (first | refine blk_drewN ?_ _ | refine blk_drew ?_ | refine blk_alloc ?_ _)); exact BK545.out) hb); have n3_ := Aside0.mk (blk_below (g := gb546) (o := .cells #[.int .i64 a1_0, .int .i64 a1_1, .int .i64 a1_2, .int .i64 a1_3, .int .i64 a1_4, .slice A1_5 l1_5.length c1_5] 24 (0, 0)) (by (with_reducible repeat (first | refine blk_drewN ?_ _ | refine blk_drew ?_ | refine blk_alloc ?_ _)); exact BK546.out) hb); have n4_ := Aside0.mk (below_step (by repeat (first | (with_reducible first | exact HB.out | apply below_alloc | apply pw_below_drewN | apply below_drew1 | refine below_set ?_ GE545.out | refine below_set ?_ GE546.out) | exact HB.out)) hb); clear HO550; clear BK545; clear BK546; clear HB; have HO550 := n0_; have HO554 := n1_; have BK545 := n2_; have BK546 := n3_; have HB := n4_; clear n0_ n1_ n2_ n3_ n4_; (try clear hb); (try clear hb2); (try clear hk); (try clear hi); (try clear ho0)))
        repeat (go_quiet (first | (go_at_call 28; (with_reducible refine (wire_Pack.calls kj3 a0_0 a0_1 a0_2 a0_3 a0_4 _ _ l0_5 t548 t551 _ ?side1 ?side2 A15.out).mono ?_); (case side1 => repeat (first | exact (Kd.C_below HR0_5.out HB.out) | (with_reducible refine Kd.C_alloc ?_ _) | (with_reducible refine Kd.C_drewN ?_ _) | (with_reducible refine Kd.C_drew ?_))); (case side2 => exact HC0_5.out); rintro e w20 ⟨v549, rfl, ho0, hb⟩; have n0_ := Aside0.mk (Kd.R_lower ho0 (below_size (by repeat (first | (with_reducible first | exact HB.out | apply below_alloc | apply pw_below_drewN | apply below_drew1 | refine below_set ?_ GE545.out | refine below_set ?_ GE546.out) | exact HB.out)))); have n1_ := Aside0.mk (blk_below (g := gb545) (o := .cells #[.int .i64 a0_0, .int .i64 a0_1, .int .i64 a0_2, .int .i64 a0_3, .int .i64 a0_4, .slice A0_5 l0_5.length c0_5] 24 (0, 0)) (by (with_reducible repeat (first | refine blk_drewN ?_ _ | refine blk_drew ?_ | refine blk_alloc ?_ _)); exact BK545.out) hb); have n2_ := Aside0.mk (blk_below (g := gb546) (o := .cells #[.int .i64 a1_0, .int .i64 a1_1, .int .i64 a1_2, .int .i64 a1_3, .int .i64 a1_4, .slice A1_5 l1_5.length c1_5] 24 (0, 0)) (by (with_reducible repeat (first | refine blk_drewN ?_ _ | refine blk_drew ?_ | refine blk_alloc ?_ _)); exact BK546.out) hb); have n3_ := Aside0.mk (below_step (by repeat (first | (with_reducible first | exact HB.out | apply below_alloc | apply pw_below_drewN | apply below_drew1 | refine below_set ?_ GE545.out | refine below_set ?_ GE546.out) | exact HB.out)) hb); clear BK545; clear BK546; clear HB; have HO550 := n0_; have BK545 := n1_; have BK546 := n2_; have HB := n3_; clear n0_ n1_ n2_ n3_; (try clear hb); (try clear hb2); (try clear hk); (try clear hi); (try clear ho0); have hcz21_0 : w20.cell? ⟨gb546, 0, none⟩ = some (.int .i64 a1_0) := (blk_cell BK546.out 0).trans rfl; have hcz21_1 : w20.cell? ⟨gb546, 1, none⟩ = some (.int .i64 a1_1) := (blk_cell BK546.out 1).trans rfl; have hcz21_2 : w20.cell? ⟨gb546, 2, none⟩ = some (.int .i64 a1_2) := (blk_cell BK546.out 2).trans rfl; have hcz21_3 : w20.cell? ⟨gb546, 3, none⟩ = some (.int .i64 a1_3) := (blk_cell BK546.out 3).trans rfl; have hcz21_4 : w20.cell? ⟨gb546, 4, none⟩ = some (.int .i64 a1_4) := (blk_cell BK546.out 4).trans rfl; have hcz21_5 : w20.cell? ⟨gb546, 5, none⟩ = some (.slice A1_5 l1_5.length c1_5) := (blk_cell BK546.out 5).trans rfl; have hfz21_0 := blk_frozen BK546.out 0; have hfz21_1 := blk_frozen BK546.out 1; have hfz21_2 := blk_frozen BK546.out 2; have hfz21_3 := blk_frozen BK546.out 3; have hfz21_4 := blk_frozen BK546.out 4; have hfz21_5 := blk_frozen BK546.out 5) | (go_at_call 28; (with_reducible refine (wire_Pack.calls kj3 a1_0 a1_1 a1_2 a1_3 a1_4 _ _ l1_5 t552 t555 _ ?side1 ?side2 A16.out).mono ?_); (case side1 => repeat (first | exact (Kd.C_below HR1_5.out HB.out) | (with_reducible refine Kd.C_alloc ?_ _) | (with_reducible refine Kd.C_drewN ?_ _) | (with_reducible refine Kd.C_drew ?_))); (case side2 => exact HC1_5.out); rintro e w22 ⟨v553, rfl, ho0, hb⟩; have n0_ := Aside0.mk (Kd.R_elder' (by (with_reducible repeat (first | apply Kd.R_alloc | apply Kd.R_drewN | apply Kd.R_drew)); exact HO550.out) (Kd.R_base ho0) hb); have n1_ := Aside0.mk (Kd.R_lower (Kd.R_new' ho0 (Kd.R_lt (by (with_reducible repeat (first | apply Kd.R_alloc | apply Kd.R_drewN | apply Kd.R_drew)); exact HO550.out))) (below_size (by repeat (first | (with_reducible first | exact HB.out | apply below_alloc | apply pw_below_drewN | apply below_drew1 | refine below_set ?_ GE545.out | refine below_set ?_ GE546.out) | exact HB.out)))); have n2_ := Aside0.mk (blk_below (g := gb545) (o := .cells #[.int .i64 a0_0, .int .i64 a0_1, .int .i64 a0_2, .int .i64 a0_3, .int .i64 a0_4, .slice A0_5 l0_5.length c0_5] 24 (0, 0)) (by (with_reducible repeat (first | refine blk_drewN ?_ _ | refine blk_drew ?_ | refine blk_alloc ?_ _)); exact BK545.out) hb); have n3_ := Aside0.mk (blk_below (g := gb546) (o := .cells #[.int .i64 a1_0, .int .i64 a1_1, .int .i64 a1_2, .int .i64 a1_3, .int .i64 a1_4, .slice A1_5 l1_5.length c1_5] 24 (0, 0)) (by (with_reducible repeat (first | refine blk_drewN ?_ _ | refine blk_drew ?_ | refine blk_alloc ?_ _)); exact BK546.out) hb); have n4_ := Aside0.mk (below_step (by repeat (first | (with_reducible first | exact HB.out | apply below_alloc | apply pw_below_drewN | apply below_drew1 | refine below_set ?_ GE545.out | refine below_set ?_ GE546.out) | exact HB.out)) hb); clear HO550; clear BK545; clear BK546; clear HB; have HO550 := n0_; have HO554 := n1_; have BK545 := n2_; have BK546 := n3_; have HB := n4_; clear n0_ n1_ n2_ n3_ n4_; (try clear hb); (try clear hb2); (try clear hk); (try clear hi); (try clear ho0))); go_upto_region 6 with (first | (go_at_call 28; (with_reducible refine (wire_Pack.calls kj3 a0_0 a0_1 a0_2 a0_3 a0_4 _ _ l0_5 t548 t551 _ ?side1 ?side2 A15.out).mono ?_); (case side1 => repeat (first | exact (Kd.C_below HR0_5.out HB.out) | (with_reducible refine Kd.C_alloc ?_ _) | (with_reducible refine Kd.C_drewN ?_ _) | (with_reducible refine Kd.C_drew ?_))); (case side2 => exact HC0_5.out); rintro e w20 ⟨v549, rfl, ho0, hb⟩; have n0_ := Aside0.mk (Kd.R_lower ho0 (below_size (by repeat (first | (with_reducible first | exact HB.out | apply below_alloc | apply pw_below_drewN | apply below_drew1 | refine below_set ?_ GE545.out | refine below_set ?_ GE546.out) | exact HB.out)))); have n1_ := Aside0.mk (blk_below (g := gb545) (o := .cells #[.int .i64 a0_0, .int .i64 a0_1, .int .i64 a0_2, .int .i64 a0_3, .int .i64 a0_4, .slice A0_5 l0_5.length c0_5] 24 (0, 0)) (by (with_reducible repeat (first | refine blk_drewN ?_ _ | refine blk_drew ?_ | refine blk_alloc ?_ _)); exact BK545.out) hb); have n2_ := Aside0.mk (blk_below (g := gb546) (o := .cells #[.int .i64 a1_0, .int .i64 a1_1, .int .i64 a1_2, .int .i64 a1_3, .int .i64 a1_4, .slice A1_5 l1_5.length c1_5] 24 (0, 0)) (by (with_reducible repeat (first | refine blk_drewN ?_ _ | refine blk_drew ?_ | refine blk_alloc ?_ _)); exact BK546.out) hb); have n3_ := Aside0.mk (below_step (by repeat (first | (with_reducible first | exact HB.out | apply below_alloc | apply pw_below_drewN | apply below_drew1 | refine below_set ?_ GE545.out | refine below_set ?_ GE546.out) | exact HB.out)) hb); clear BK545; clear BK546; clear HB; have HO550 := n0_; have BK545 := n1_; have BK546 := n2_; have HB := n3_; clear n0_ n1_ n2_ n3_; (try clear hb); (try clear hb2); (try clear hk); (try clear hi); (try clear ho0); have hcz21_0 : w20.cell? ⟨gb546, 0, none⟩ = some (.int .i64 a1_0) := (blk_cell BK546.out 0).trans rfl; have hcz21_1 : w20.cell? ⟨gb546, 1, none⟩ = some (.int .i64 a1_1) := (blk_cell BK546.out 1).trans rfl; have hcz21_2 : w20.cell? ⟨gb546, 2, none⟩ = some (.int .i64 a1_2) := (blk_cell BK546.out 2).trans rfl; have hcz21_3 : w20.cell? ⟨gb546, 3, none⟩ = some (.int .i64 a1_3) := (blk_cell BK546.out 3).trans rfl; have hcz21_4 : w20.cell? ⟨gb546, 4, none⟩ = some (.int .i64 a1_4) := (blk_cell BK546.out 4).trans rfl; have hcz21_5 : w20.cell? ⟨gb546, 5, none⟩ = some (.slice A1_5 l1_5.length c1_5) := (blk_cell BK546.out 5).trans rfl; have hfz21_0 := blk_frozen BK546.out 0; have hfz21_1 := blk_frozen BK546.out 1; have hfz21_2 := blk_frozen BK546.out 2; have hfz21_3 := blk_frozen BK546.out 3; have hfz21_4 := blk_frozen BK546.out 4; have hfz21_5 := blk_frozen BK546.out 5) | (go_at_call 28; (with_reducible refine (wire_Pack.calls kj3 a1_0 a1_1 a1_2 a1_3 a1_4 _ _ l1_5 t552 t555 _ ?side1 ?side2 A16.out).mono ?_); (case side1 => repeat (first | exact (Kd.C_below HR1_5.out HB.out) | (with_reducible refine Kd.C_alloc ?_ _) | (with_reducible refine Kd.C_drewN ?_ _) | (with_reducible refine Kd.C_drew ?_))); (case side2 => exact HC1_5.out); rintro e w22 ⟨v553, rfl, ho0, hb⟩; have n0_ := Aside0.mk (Kd.R_elder' (by (with_reducible repeat (first | apply Kd.R_alloc | apply Kd.R_drewN | apply Kd.R_drew)); exact HO550.out) (Kd.R_base ho0) hb); have n1_ := Aside0.mk (Kd.R_lower (Kd.R_new' ho0 (Kd.R_lt (by (with_reducible repeat (first | apply Kd.R_alloc | apply Kd.R_drewN | apply Kd.R_drew)); exact HO550.out))) (below_size (by repeat (first | (with_reducible first | exact HB.out | apply below_alloc | apply pw_below_drewN | apply below_drew1 | refine below_set ?_ GE545.out | refine below_set ?_ GE546.out) | exact HB.out)))); have n2_ := Aside0.mk (blk_below (g := gb545) (o := .cells #[.int .i64 a0_0, .int .i64 a0_1, .int .i64 a0_2, .int .i64 a0_3, .int .i64 a0_4, .slice A0_5 l0_5.length c0_5] 24 (0, 0)) (by (with_reducible repeat (first | refine blk_drewN ?_ _ | refine blk_drew ?_ | refine blk_alloc ?_ _)); exact BK545.out) hb); have n3_ := Aside0.mk (blk_below (g := gb546) (o := .cells #[.int .i64 a1_0, .int .i64 a1_1, .int .i64 a1_2, .int .i64 a1_3, .int .i64 a1_4, .slice A1_5 l1_5.length c1_5] 24 (0, 0)) (by (with_reducible repeat (first | refine blk_drewN ?_ _ | refine blk_drew ?_ | refine blk_alloc ?_ _)); exact BK546.out) hb); have n4_ := Aside0.mk (below_step (by repeat (first | (with_reducible first | exact HB.out | apply below_alloc | apply pw_below_drewN | apply below_drew1 | refine below_set ?_ GE545.out | refine below_set ?_ GE546.out) | exact HB.out)) hb); clear HO550; clear BK545; clear BK546; clear HB; have HO550 := n0_; have HO554 := n1_; have BK545 := n2_; have BK546 := n3_; have HB := n4_; clear n0_ n1_ n2_ n3_ n4_; (try clear hb); (try clear hb2); (try clear hk); (try clear hi); (try clear ho0))))
        (try simp only [Act.put, List.setIfInBounds_toArray, List.set_cons_zero, List.set_cons_succ])
        go_cut [39] (fun v39 wc => ∃ (kq : Nat) (x39_16 : Bool), v39 = .bool x39_16 ∧ Aside0 (slotmeshlaw04_WireTwoFrames.j1 kq t547 t548 t552 x39_16 a0_0 a0_1 a0_2 a0_3 a0_4 l0_5 a1_0 a1_1 a1_2 a1_3 a1_4 l1_5 = some r) ∧ Aside0 (kq ≤ kj3) ∧ Aside0 (Kd.R (Kd.int .u8) 5 wc w.heap.size (fun k_ => some k_ ≠ (v553 : Value).ownBlock) v549 t548) ∧ Aside0 (Kd.R (Kd.int .u8) 5 wc w.heap.size (fun k_ => some k_ ≠ (v549 : Value).ownBlock) v553 t552) ∧ Aside0 (wc.heap[gb545]? = some (.cells #[.int .i64 a0_0, .int .i64 a0_1, .int .i64 a0_2, .int .i64 a0_3, .int .i64 a0_4, (.slice A0_5 l0_5.length c0_5)] 24 (0, 0))) ∧ Aside0 (wc.heap[gb546]? = some (.cells #[.int .i64 a1_0, .int .i64 a1_1, .int .i64 a1_2, .int .i64 a1_3, .int .i64 a1_4, (.slice A1_5 l1_5.length c1_5)] 24 (0, 0))) ∧ Aside0 (Below w.heap.size w wc))
        case first =>
          have H := HC17.out
          clear HC17
          by_cases c23 : t551 = 0
          · rw [if_pos c23] at H
            have c23b0 : (t551 == 0) = true := beq_iff_eq.mpr c23
            have c23b1 : (t551 != 0) = false := bne_eq_false_iff_eq.mpr c23
            clear c23
            (first | rw [c23b0] | (simp only [i64_w, i32_w]; rw [c23b0]) | skip)
            have H' := Aside0.mk H
            clear H
            go_wp2
            repeat (go_quiet (fail); try go_wp2)
            go_meet
            case rel => exact ⟨_, ((t555 != 0)), (by first | rfl | (simp; done) | (simp [*]; done)), H', ⟨by have := HJ3.out; first | omega | exact Nat.le_refl _⟩, ⟨by (with_reducible repeat (first | apply Kd.R_alloc | apply Kd.R_drewN | apply Kd.R_drew)); exact Kd.R_mono HO550.out (fun _ hk => hk.2)⟩, ⟨by (with_reducible repeat (first | apply Kd.R_alloc | apply Kd.R_drewN | apply Kd.R_drew)); exact Kd.R_mono HO554.out (fun _ hk => hk.2)⟩, ⟨by (with_reducible repeat (first | refine blk_drewN ?_ _ | refine blk_drew ?_ | refine blk_alloc ?_ _)); exact BK545.out⟩, ⟨by (with_reducible repeat (first | refine blk_drewN ?_ _ | refine blk_drew ?_ | refine blk_alloc ?_ _)); exact BK546.out⟩, ⟨by repeat (first | (with_reducible first | exact HB.out | apply below_alloc | apply pw_below_drewN | apply below_drew1 | refine below_set ?_ GE545.out | refine below_set ?_ GE546.out) | exact HB.out)⟩⟩
          · rw [if_neg c23] at H
            have c23b0 : (t551 == 0) = false := beq_eq_false_iff_ne.mpr c23
            have c23b1 : (t551 != 0) = true := bne_iff_ne.mpr c23
            (first | rw [c23b0] | (simp only [i64_w, i32_w]; rw [c23b0]) | skip)
            have H' := Aside0.mk H
            clear H
            go_wp2
            repeat (go_quiet (fail); try go_wp2)
            go_meet
            case rel => exact ⟨_, (true), (by first | rfl | (simp; done) | (simp [*]; done)), H', ⟨by have := HJ3.out; first | omega | exact Nat.le_refl _⟩, ⟨by (with_reducible repeat (first | apply Kd.R_alloc | apply Kd.R_drewN | apply Kd.R_drew)); exact Kd.R_mono HO550.out (fun _ hk => hk.2)⟩, ⟨by (with_reducible repeat (first | apply Kd.R_alloc | apply Kd.R_drewN | apply Kd.R_drew)); exact Kd.R_mono HO554.out (fun _ hk => hk.2)⟩, ⟨by (with_reducible repeat (first | refine blk_drewN ?_ _ | refine blk_drew ?_ | refine blk_alloc ?_ _)); exact BK545.out⟩, ⟨by (with_reducible repeat (first | refine blk_drewN ?_ _ | refine blk_drew ?_ | refine blk_alloc ?_ _)); exact BK546.out⟩, ⟨by repeat (first | (with_reducible first | exact HB.out | apply below_alloc | apply pw_below_drewN | apply below_drew1 | refine below_set ?_ GE545.out | refine below_set ?_ GE546.out) | exact HB.out)⟩⟩
        case rest =>
          clear HC17
          try clear c1
          try clear c2
          try clear p2
          try clear c8
          try clear c8b0
          try clear c8b1
          try clear c9
          try clear c11
          try clear c14
          try clear c18
          try clear c23
          try clear c23b0
          try clear c23b1
          try clear hcz10_0
          try clear hcz10_1
          try clear hcz10_2
          try clear hcz10_3
          try clear hcz10_4
          try clear hcz10_5
          try clear hcz12_0
          try clear hcz12_1
          try clear hcz12_2
          try clear hcz12_3
          try clear hcz12_4
          try clear hcz12_5
          try clear hcz13_0
          try clear hcz13_1
          try clear hcz13_2
          try clear hcz13_3
          try clear hcz13_4
          try clear hcz13_5
          try clear hcz19_0
          try clear hcz19_1
          try clear hcz19_2
          try clear hcz19_3
          try clear hcz19_4
          try clear hcz19_5
          try clear hcz21_0
          try clear hcz21_1
          try clear hcz21_2
          try clear hcz21_3
          try clear hcz21_4
          try clear hcz21_5
          try clear hfz10_0
          try clear hfz10_1
          try clear hfz10_2
          try clear hfz10_3
          try clear hfz10_4
          try clear hfz10_5
          try clear hfz12_0
          try clear hfz12_1
          try clear hfz12_2
          try clear hfz12_3
          try clear hfz12_4
          try clear hfz12_5
          try clear hfz13_0
          try clear hfz13_1
          try clear hfz13_2
          try clear hfz13_3
          try clear hfz13_4
          try clear hfz13_5
          try clear hfz19_0
          try clear hfz19_1
          try clear hfz19_2
          try clear hfz19_3
          try clear hfz19_4
          try clear hfz19_5
          try clear hfz21_0
          try clear hfz21_1
          try clear hfz21_2
          try clear hfz21_3
          try clear hfz21_4
          try clear hfz21_5
          try clear p2
          obtain ⟨kq, x39_16, rfl, HA, HJ16, HO_6, HO_8, BK545, BK546, HB⟩ := hcut
          cases kq with
          | zero => exact absurd HA.out (by simp [slotmeshlaw04_WireTwoFrames.j1])
          | succ kj16 =>
            have H := HA.out
            clear HA
            simp only [slotmeshlaw04_WireTwoFrames.j1] at H
            by_cases c24 : x39_16 = true
            · subst c24
              have H1 : (some t547) = some r := by rw [if_pos rfl] at H; exact H
              clear H
              have H := H1
              clear H1
              obtain rfl := Option.some.inj H
              go_wp2
              repeat (go_quiet (fail); try go_wp2)
              go_ret
              exact ⟨by first | rfl | (simp [errW_none, errW_some] <;> rfl) | (simp [*, errW_none, errW_some] <;> rfl), by repeat (first | (with_reducible first | exact HB.out | apply below_alloc | apply pw_below_drewN | apply below_drew1 | refine below_set ?_ GE545.out | refine below_set ?_ GE546.out) | exact HB.out)⟩
            · replace c24 := Bool.eq_false_iff.mpr c24
              subst c24
              have H1 : ((slotmeshref04_SameFrame.f kj16 a0_0 a0_1 a0_2 a0_3 a0_4 l0_5 a1_0 a1_1 a1_2 a1_3 a1_4 l1_5).bind fun t556 => (if t547 = true then ((slotmeshref04_Same.f kj16 t548 t552).bind fun t557 => (if (t557 == t556) = true then (if t556 = true then (some true) else (if 0 ≤ (mn (t548.length : Int) (t552.length : Int)) then (if (mn (t548.length : Int) (t552.length : Int)) ≤ (t548.length : Int) then (if (mn (t548.length : Int) (t552.length : Int)) ≤ (t552.length : Int) then ((slotmeshref04_Same.f kj16 (t548.take ((mn (t548.length : Int) (t552.length : Int)) : Int).toNat) (t552.take ((mn (t548.length : Int) (t552.length : Int)) : Int).toNat)).bind fun t566 => (some (!t566))) else (none)) else (none)) else (none))) else (none))) else (none))) = some r := by rw [if_neg (show ¬ (false = true) by decide)] at H; exact H
              clear H
              have H := H1
              clear H1
              replace H := Option.bind_eq_some_iff.mp H
              obtain ⟨t556, A250, H⟩ := H
              replace H : (if t547 = true then ((slotmeshref04_Same.f kj16 t548 t552).bind fun t557 => (if (t557 == t556) = true then (if t556 = true then (some true) else (if 0 ≤ (mn (t548.length : Int) (t552.length : Int)) then (if (mn (t548.length : Int) (t552.length : Int)) ≤ (t548.length : Int) then (if (mn (t548.length : Int) (t552.length : Int)) ≤ (t552.length : Int) then ((slotmeshref04_Same.f kj16 (t548.take ((mn (t548.length : Int) (t552.length : Int)) : Int).toNat) (t552.take ((mn (t548.length : Int) (t552.length : Int)) : Int).toNat)).bind fun t566 => (some (!t566))) else (none)) else (none)) else (none))) else (none))) else (none)) = some r := H
              have A25 := Aside0.mk A250
              clear A250
              obtain ⟨ji26, hji26⟩ : ∃ j_ : Int, (mn (t548.length : Int) (t552.length : Int)) = j_ := ⟨_, rfl⟩
              replace H : (if t547 = true then ((slotmeshref04_Same.f kj16 t548 t552).bind fun t557 => (if (t557 == t556) = true then (if t556 = true then (some true) else (if 0 ≤ (ji26) then (if (ji26) ≤ (t548.length : Int) then (if (ji26) ≤ (t552.length : Int) then ((slotmeshref04_Same.f kj16 (t548.take ((ji26) : Int).toNat) (t552.take ((ji26) : Int).toNat)).bind fun t566 => (some (!t566))) else (none)) else (none)) else (none))) else (none))) else (none)) = some r := by first | (rw [hji26] at H; exact H) | (simp only [hji26] at H ⊢; exact H)
              (try rw [hji26] at A25)
              have hji26_ : (if (t552.length : Int) < (t548.length : Int) then (t552.length : Int) else (t548.length : Int)) = ji26 := hji26
              have hji26__ : (if t552.length < t548.length then (t552.length : Int) else (t548.length : Int)) = ji26 := by rw [← hji26_]; simp only [Int.ofNat_lt]
              by_cases c27 : t547 = true
              · subst c27
                have H1 : ((slotmeshref04_Same.f kj16 t548 t552).bind fun t557 => (if (t557 == t556) = true then (if t556 = true then (some true) else (if 0 ≤ (ji26) then (if (ji26) ≤ (t548.length : Int) then (if (ji26) ≤ (t552.length : Int) then ((slotmeshref04_Same.f kj16 (t548.take ((ji26) : Int).toNat) (t552.take ((ji26) : Int).toNat)).bind fun t566 => (some (!t566))) else (none)) else (none)) else (none))) else (none))) = some r := by rw [if_pos rfl] at H; exact H
                clear H
                have H := H1
                clear H1
                replace H := Option.bind_eq_some_iff.mp H
                obtain ⟨t557, A280, H⟩ := H
                replace H : (if (t557 == t556) = true then (if t556 = true then (some true) else (if 0 ≤ (ji26) then (if (ji26) ≤ (t548.length : Int) then (if (ji26) ≤ (t552.length : Int) then ((slotmeshref04_Same.f kj16 (t548.take ((ji26) : Int).toNat) (t552.take ((ji26) : Int).toNat)).bind fun t566 => (some (!t566))) else (none)) else (none)) else (none))) else (none)) = some r := H
                have A28 := Aside0.mk A280
                clear A280
                by_cases c29 : (t557 == t556) = true
                · rw [if_pos c29] at H
                  have c29b0 : (t557 == t556) = true := c29
                  (try (have c29b1 : decide (t557 = t556) = true := by simpa using c29))
                  (try (have c29b2 : (t557 == t556) = true := by simpa using c29))
                  clear c29
                  by_cases c30 : t556 = true
                  · subst c30
                    have H1 : (some true) = some r := by rw [if_pos rfl] at H; exact H
                    clear H
                    have H := H1
                    clear H1
                    obtain rfl := Option.some.inj H
                    have hnb31 := NB545_546.out
                    have hnc31 := NB546_545.out
                    have hcz32_0 : wc.cell? ⟨gb545, 0, none⟩ = some (.int .i64 a0_0) := (blk_cell BK545.out 0).trans rfl
                    have hcz32_1 : wc.cell? ⟨gb545, 1, none⟩ = some (.int .i64 a0_1) := (blk_cell BK545.out 1).trans rfl
                    have hcz32_2 : wc.cell? ⟨gb545, 2, none⟩ = some (.int .i64 a0_2) := (blk_cell BK545.out 2).trans rfl
                    have hcz32_3 : wc.cell? ⟨gb545, 3, none⟩ = some (.int .i64 a0_3) := (blk_cell BK545.out 3).trans rfl
                    have hcz32_4 : wc.cell? ⟨gb545, 4, none⟩ = some (.int .i64 a0_4) := (blk_cell BK545.out 4).trans rfl
                    have hcz32_5 : wc.cell? ⟨gb545, 5, none⟩ = some (.slice A0_5 l0_5.length c0_5) := (blk_cell BK545.out 5).trans rfl
                    have hfz32_0 := blk_frozen BK545.out 0
                    have hfz32_1 := blk_frozen BK545.out 1
                    have hfz32_2 := blk_frozen BK545.out 2
                    have hfz32_3 := blk_frozen BK545.out 3
                    have hfz32_4 := blk_frozen BK545.out 4
                    have hfz32_5 := blk_frozen BK545.out 5
                    have hcz33_0 : wc.cell? ⟨gb546, 0, none⟩ = some (.int .i64 a1_0) := (blk_cell BK546.out 0).trans rfl
                    have hcz33_1 : wc.cell? ⟨gb546, 1, none⟩ = some (.int .i64 a1_1) := (blk_cell BK546.out 1).trans rfl
                    have hcz33_2 : wc.cell? ⟨gb546, 2, none⟩ = some (.int .i64 a1_2) := (blk_cell BK546.out 2).trans rfl
                    have hcz33_3 : wc.cell? ⟨gb546, 3, none⟩ = some (.int .i64 a1_3) := (blk_cell BK546.out 3).trans rfl
                    have hcz33_4 : wc.cell? ⟨gb546, 4, none⟩ = some (.int .i64 a1_4) := (blk_cell BK546.out 4).trans rfl
                    have hcz33_5 : wc.cell? ⟨gb546, 5, none⟩ = some (.slice A1_5 l1_5.length c1_5) := (blk_cell BK546.out 5).trans rfl
                    have hfz33_0 := blk_frozen BK546.out 0
                    have hfz33_1 := blk_frozen BK546.out 1
                    have hfz33_2 := blk_frozen BK546.out 2
                    have hfz33_3 := blk_frozen BK546.out 3
                    have hfz33_4 := blk_frozen BK546.out 4
                    have hfz33_5 := blk_frozen BK546.out 5
                    go_wp2_with (first | (go_at_call 32; (with_reducible refine (slotmeshref04_SameFrame.calls kj16 a0_0 a0_1 a0_2 a0_3 a0_4 _ _ l0_5 a1_0 a1_1 a1_2 a1_3 a1_4 _ _ l1_5 true _ ?side1 ?side2 ?side3 ?side4 A25.out).mono ?_); (case side1 => repeat (first | exact (Kd.C_below HR0_5.out HB.out) | (with_reducible refine Kd.C_alloc ?_ _) | (with_reducible refine Kd.C_drewN ?_ _) | (with_reducible refine Kd.C_drew ?_))); (case side2 => exact HC0_5.out); (case side3 => repeat (first | exact (Kd.C_below HR1_5.out HB.out) | (with_reducible refine Kd.C_alloc ?_ _) | (with_reducible refine Kd.C_drewN ?_ _) | (with_reducible refine Kd.C_drew ?_))); (case side4 => exact HC1_5.out); rintro e w34 ⟨rfl, hb⟩; have n0_ := Aside0.mk (Kd.R_below (by (with_reducible repeat (first | apply Kd.R_alloc | apply Kd.R_drewN | apply Kd.R_drew)); exact HO_6.out) hb); have n1_ := Aside0.mk (Kd.R_below (by (with_reducible repeat (first | apply Kd.R_alloc | apply Kd.R_drewN | apply Kd.R_drew)); exact HO_8.out) hb); have n2_ := Aside0.mk (blk_below (g := gb545) (o := .cells #[.int .i64 a0_0, .int .i64 a0_1, .int .i64 a0_2, .int .i64 a0_3, .int .i64 a0_4, .slice A0_5 l0_5.length c0_5] 24 (0, 0)) (by (with_reducible repeat (first | refine blk_drewN ?_ _ | refine blk_drew ?_ | refine blk_alloc ?_ _)); exact BK545.out) hb); have n3_ := Aside0.mk (blk_below (g := gb546) (o := .cells #[.int .i64 a1_0, .int .i64 a1_1, .int .i64 a1_2, .int .i64 a1_3, .int .i64 a1_4, .slice A1_5 l1_5.length c1_5] 24 (0, 0)) (by (with_reducible repeat (first | refine blk_drewN ?_ _ | refine blk_drew ?_ | refine blk_alloc ?_ _)); exact BK546.out) hb); have n4_ := Aside0.mk (below_step (by repeat (first | (with_reducible first | exact HB.out | apply below_alloc | apply pw_below_drewN | apply below_drew1 | refine below_set ?_ GE545.out | refine below_set ?_ GE546.out) | exact HB.out)) hb); clear HO_6; clear HO_8; clear BK545; clear BK546; clear HB; have HO_6 := n0_; have HO_8 := n1_; have BK545 := n2_; have BK546 := n3_; have HB := n4_; clear n0_ n1_ n2_ n3_ n4_; (try clear hb); (try clear hb2); (try clear hk); (try clear hi); obtain ⟨Ao35, co35, eo35⟩ := Kd.R_slice HO_6.out; subst eo35; obtain ⟨Ao36, co36, eo36⟩ := Kd.R_slice HO_8.out; subst eo36) | (go_at_call 21; (with_reducible refine (slotmeshref04_Same.calls kj16 _ _ t548 _ _ t552 t557 _ ?side1 ?side2 ?side3 ?side4 A28.out).mono ?_); (case side1 => repeat (first | exact (Kd.R_reads' HO_6.out).2.2 | (with_reducible refine Kd.C_alloc ?_ _) | (with_reducible refine Kd.C_drewN ?_ _) | (with_reducible refine Kd.C_drew ?_))); (case side2 => exact (Kd.R_reads' HO_6.out).2.1); (case side3 => repeat (first | exact (Kd.R_reads' HO_8.out).2.2 | (with_reducible refine Kd.C_alloc ?_ _) | (with_reducible refine Kd.C_drewN ?_ _) | (with_reducible refine Kd.C_drew ?_))); (case side4 => exact (Kd.R_reads' HO_8.out).2.1); rintro e w' ⟨rfl, ⟨nd, rfl⟩⟩; (try first | exact ⟨rfl, _, World.drewN_drewN _ _ _⟩ | exact ⟨rfl, _, Eq.trans (World.drewN_drewN _ _ _) (congrArg (World.drewN _) (Nat.add_assoc _ _ _))⟩)))
                    repeat (go_quiet (first | (go_at_call 32; (with_reducible refine (slotmeshref04_SameFrame.calls kj16 a0_0 a0_1 a0_2 a0_3 a0_4 _ _ l0_5 a1_0 a1_1 a1_2 a1_3 a1_4 _ _ l1_5 true _ ?side1 ?side2 ?side3 ?side4 A25.out).mono ?_); (case side1 => repeat (first | exact (Kd.C_below HR0_5.out HB.out) | (with_reducible refine Kd.C_alloc ?_ _) | (with_reducible refine Kd.C_drewN ?_ _) | (with_reducible refine Kd.C_drew ?_))); (case side2 => exact HC0_5.out); (case side3 => repeat (first | exact (Kd.C_below HR1_5.out HB.out) | (with_reducible refine Kd.C_alloc ?_ _) | (with_reducible refine Kd.C_drewN ?_ _) | (with_reducible refine Kd.C_drew ?_))); (case side4 => exact HC1_5.out); rintro e w34 ⟨rfl, hb⟩; have n0_ := Aside0.mk (Kd.R_below (by (with_reducible repeat (first | apply Kd.R_alloc | apply Kd.R_drewN | apply Kd.R_drew)); exact HO_6.out) hb); have n1_ := Aside0.mk (Kd.R_below (by (with_reducible repeat (first | apply Kd.R_alloc | apply Kd.R_drewN | apply Kd.R_drew)); exact HO_8.out) hb); have n2_ := Aside0.mk (blk_below (g := gb545) (o := .cells #[.int .i64 a0_0, .int .i64 a0_1, .int .i64 a0_2, .int .i64 a0_3, .int .i64 a0_4, .slice A0_5 l0_5.length c0_5] 24 (0, 0)) (by (with_reducible repeat (first | refine blk_drewN ?_ _ | refine blk_drew ?_ | refine blk_alloc ?_ _)); exact BK545.out) hb); have n3_ := Aside0.mk (blk_below (g := gb546) (o := .cells #[.int .i64 a1_0, .int .i64 a1_1, .int .i64 a1_2, .int .i64 a1_3, .int .i64 a1_4, .slice A1_5 l1_5.length c1_5] 24 (0, 0)) (by (with_reducible repeat (first | refine blk_drewN ?_ _ | refine blk_drew ?_ | refine blk_alloc ?_ _)); exact BK546.out) hb); have n4_ := Aside0.mk (below_step (by repeat (first | (with_reducible first | exact HB.out | apply below_alloc | apply pw_below_drewN | apply below_drew1 | refine below_set ?_ GE545.out | refine below_set ?_ GE546.out) | exact HB.out)) hb); clear HO_6; clear HO_8; clear BK545; clear BK546; clear HB; have HO_6 := n0_; have HO_8 := n1_; have BK545 := n2_; have BK546 := n3_; have HB := n4_; clear n0_ n1_ n2_ n3_ n4_; (try clear hb); (try clear hb2); (try clear hk); (try clear hi); obtain ⟨Ao35, co35, eo35⟩ := Kd.R_slice HO_6.out; subst eo35; obtain ⟨Ao36, co36, eo36⟩ := Kd.R_slice HO_8.out; subst eo36) | (go_at_call 21; (with_reducible refine (slotmeshref04_Same.calls kj16 _ _ t548 _ _ t552 t557 _ ?side1 ?side2 ?side3 ?side4 A28.out).mono ?_); (case side1 => repeat (first | exact (Kd.R_reads' HO_6.out).2.2 | (with_reducible refine Kd.C_alloc ?_ _) | (with_reducible refine Kd.C_drewN ?_ _) | (with_reducible refine Kd.C_drew ?_))); (case side2 => exact (Kd.R_reads' HO_6.out).2.1); (case side3 => repeat (first | exact (Kd.R_reads' HO_8.out).2.2 | (with_reducible refine Kd.C_alloc ?_ _) | (with_reducible refine Kd.C_drewN ?_ _) | (with_reducible refine Kd.C_drew ?_))); (case side4 => exact (Kd.R_reads' HO_8.out).2.1); rintro e w' ⟨rfl, ⟨nd, rfl⟩⟩; (try first | exact ⟨rfl, _, World.drewN_drewN _ _ _⟩ | exact ⟨rfl, _, Eq.trans (World.drewN_drewN _ _ _) (congrArg (World.drewN _) (Nat.add_assoc _ _ _))⟩))); try go_wp2_with (first | (go_at_call 32; (with_reducible refine (slotmeshref04_SameFrame.calls kj16 a0_0 a0_1 a0_2 a0_3 a0_4 _ _ l0_5 a1_0 a1_1 a1_2 a1_3 a1_4 _ _ l1_5 true _ ?side1 ?side2 ?side3 ?side4 A25.out).mono ?_); (case side1 => repeat (first | exact (Kd.C_below HR0_5.out HB.out) | (with_reducible refine Kd.C_alloc ?_ _) | (with_reducible refine Kd.C_drewN ?_ _) | (with_reducible refine Kd.C_drew ?_))); (case side2 => exact HC0_5.out); (case side3 => repeat (first | exact (Kd.C_below HR1_5.out HB.out) | (with_reducible refine Kd.C_alloc ?_ _) | (with_reducible refine Kd.C_drewN ?_ _) | (with_reducible refine Kd.C_drew ?_))); (case side4 => exact HC1_5.out); rintro e w34 ⟨rfl, hb⟩; have n0_ := Aside0.mk (Kd.R_below (by (with_reducible repeat (first | apply Kd.R_alloc | apply Kd.R_drewN | apply Kd.R_drew)); exact HO_6.out) hb); have n1_ := Aside0.mk (Kd.R_below (by (with_reducible repeat (first | apply Kd.R_alloc | apply Kd.R_drewN | apply Kd.R_drew)); exact HO_8.out) hb); have n2_ := Aside0.mk (blk_below (g := gb545) (o := .cells #[.int .i64 a0_0, .int .i64 a0_1, .int .i64 a0_2, .int .i64 a0_3, .int .i64 a0_4, .slice A0_5 l0_5.length c0_5] 24 (0, 0)) (by (with_reducible repeat (first | refine blk_drewN ?_ _ | refine blk_drew ?_ | refine blk_alloc ?_ _)); exact BK545.out) hb); have n3_ := Aside0.mk (blk_below (g := gb546) (o := .cells #[.int .i64 a1_0, .int .i64 a1_1, .int .i64 a1_2, .int .i64 a1_3, .int .i64 a1_4, .slice A1_5 l1_5.length c1_5] 24 (0, 0)) (by (with_reducible repeat (first | refine blk_drewN ?_ _ | refine blk_drew ?_ | refine blk_alloc ?_ _)); exact BK546.out) hb); have n4_ := Aside0.mk (below_step (by repeat (first | (with_reducible first | exact HB.out | apply below_alloc | apply pw_below_drewN | apply below_drew1 | refine below_set ?_ GE545.out | refine below_set ?_ GE546.out) | exact HB.out)) hb); clear HO_6; clear HO_8; clear BK545; clear BK546; clear HB; have HO_6 := n0_; have HO_8 := n1_; have BK545 := n2_; have BK546 := n3_; have HB := n4_; clear n0_ n1_ n2_ n3_ n4_; (try clear hb); (try clear hb2); (try clear hk); (try clear hi); obtain ⟨Ao35, co35, eo35⟩ := Kd.R_slice HO_6.out; subst eo35; obtain ⟨Ao36, co36, eo36⟩ := Kd.R_slice HO_8.out; subst eo36) | (go_at_call 21; (with_reducible refine (slotmeshref04_Same.calls kj16 _ _ t548 _ _ t552 t557 _ ?side1 ?side2 ?side3 ?side4 A28.out).mono ?_); (case side1 => repeat (first | exact (Kd.R_reads' HO_6.out).2.2 | (with_reducible refine Kd.C_alloc ?_ _) | (with_reducible refine Kd.C_drewN ?_ _) | (with_reducible refine Kd.C_drew ?_))); (case side2 => exact (Kd.R_reads' HO_6.out).2.1); (case side3 => repeat (first | exact (Kd.R_reads' HO_8.out).2.2 | (with_reducible refine Kd.C_alloc ?_ _) | (with_reducible refine Kd.C_drewN ?_ _) | (with_reducible refine Kd.C_drew ?_))); (case side4 => exact (Kd.R_reads' HO_8.out).2.1); rintro e w' ⟨rfl, ⟨nd, rfl⟩⟩; (try first | exact ⟨rfl, _, World.drewN_drewN _ _ _⟩ | exact ⟨rfl, _, Eq.trans (World.drewN_drewN _ _ _) (congrArg (World.drewN _) (Nat.add_assoc _ _ _))⟩))))
                    go_ret
                    exact ⟨by first | rfl | (simp [errW_none, errW_some] <;> rfl) | (simp only [← hji26]; first | rfl | (simp [errW_none, errW_some] <;> rfl)) | (simp [*, errW_none, errW_some] <;> rfl), by repeat (first | (with_reducible first | exact HB.out | apply below_alloc | apply pw_below_drewN | apply below_drew1 | refine below_set ?_ GE545.out | refine below_set ?_ GE546.out) | exact HB.out)⟩
                  · replace c30 := Bool.eq_false_iff.mpr c30
                    subst c30
                    have H1 : (if 0 ≤ (ji26) then (if (ji26) ≤ (t548.length : Int) then (if (ji26) ≤ (t552.length : Int) then ((slotmeshref04_Same.f kj16 (t548.take ((ji26) : Int).toNat) (t552.take ((ji26) : Int).toNat)).bind fun t566 => (some (!t566))) else (none)) else (none)) else (none)) = some r := by rw [if_neg (show ¬ (false = true) by decide)] at H; exact H
                    clear H
                    have H := H1
                    clear H1
                    by_cases c37 : 0 ≤ (ji26)
                    · rw [if_pos c37] at H
                      have c37b0 := eq_true c37
                      have c37b1 : decide (0 ≤ (ji26)) = true := decide_eq_true c37
                      clear c37
                      by_cases c38 : (ji26) ≤ (t548.length : Int)
                      · rw [if_pos c38] at H
                        have c38b0 := eq_true c38
                        have c38b1 : decide ((ji26) ≤ (t548.length : Int)) = true := decide_eq_true c38
                        clear c38
                        obtain ⟨y558, hy558⟩ : ∃ y_ : List Int, y_ = (t548.take ((ji26) : Int).toNat) := ⟨_, rfl⟩
                        replace H : (if (ji26) ≤ (t552.length : Int) then ((slotmeshref04_Same.f kj16 y558 (t552.take ((ji26) : Int).toNat)).bind fun t566 => (some (!t566))) else (none)) = some r := by first | (rw [hy558]; with_reducible exact H) | (have H2_ := (Option.bind_some _ _).symm.trans H; rw [hy558]; with_reducible exact H2_) | (have H2_ := (Option.bind_some _ _).symm.trans H; with_reducible exact H2_) | with_reducible exact H | (rw [hy558]; exact H) | exact H
                        have Ny558 := Aside0.mk hy558
                        clear hy558
                        have c39b0 := eq_true (of_decide_eq_true (by first | (with_reducible assumption) | assumption) : 0 ≤ (ji26))
                        by_cases c40 : (ji26) ≤ (t552.length : Int)
                        · rw [if_pos c40] at H
                          have c40b0 := eq_true c40
                          have c40b1 : decide ((ji26) ≤ (t552.length : Int)) = true := decide_eq_true c40
                          clear c40
                          obtain ⟨y562, hy562⟩ : ∃ y_ : List Int, y_ = (t552.take ((ji26) : Int).toNat) := ⟨_, rfl⟩
                          replace H : ((slotmeshref04_Same.f kj16 y558 y562).bind fun t566 => (some (!t566))) = some r := by first | (rw [hy562]; with_reducible exact H) | (have H2_ := (Option.bind_some _ _).symm.trans H; rw [hy562]; with_reducible exact H2_) | (have H2_ := (Option.bind_some _ _).symm.trans H; with_reducible exact H2_) | with_reducible exact H | (rw [hy562]; exact H) | exact H
                          have Ny562 := Aside0.mk hy562
                          clear hy562
                          replace H := Option.bind_eq_some_iff.mp H
                          obtain ⟨t566, A410, H⟩ := H
                          replace H : (some (!t566)) = some r := H
                          have A41 := Aside0.mk A410
                          clear A410
                          obtain rfl := Option.some.inj H
                          have hnb42 := NB545_546.out
                          have hnc42 := NB546_545.out
                          have hcz43_0 : wc.cell? ⟨gb545, 0, none⟩ = some (.int .i64 a0_0) := (blk_cell BK545.out 0).trans rfl
                          have hcz43_1 : wc.cell? ⟨gb545, 1, none⟩ = some (.int .i64 a0_1) := (blk_cell BK545.out 1).trans rfl
                          have hcz43_2 : wc.cell? ⟨gb545, 2, none⟩ = some (.int .i64 a0_2) := (blk_cell BK545.out 2).trans rfl
                          have hcz43_3 : wc.cell? ⟨gb545, 3, none⟩ = some (.int .i64 a0_3) := (blk_cell BK545.out 3).trans rfl
                          have hcz43_4 : wc.cell? ⟨gb545, 4, none⟩ = some (.int .i64 a0_4) := (blk_cell BK545.out 4).trans rfl
                          have hcz43_5 : wc.cell? ⟨gb545, 5, none⟩ = some (.slice A0_5 l0_5.length c0_5) := (blk_cell BK545.out 5).trans rfl
                          have hfz43_0 := blk_frozen BK545.out 0
                          have hfz43_1 := blk_frozen BK545.out 1
                          have hfz43_2 := blk_frozen BK545.out 2
                          have hfz43_3 := blk_frozen BK545.out 3
                          have hfz43_4 := blk_frozen BK545.out 4
                          have hfz43_5 := blk_frozen BK545.out 5
                          have hcz44_0 : wc.cell? ⟨gb546, 0, none⟩ = some (.int .i64 a1_0) := (blk_cell BK546.out 0).trans rfl
                          have hcz44_1 : wc.cell? ⟨gb546, 1, none⟩ = some (.int .i64 a1_1) := (blk_cell BK546.out 1).trans rfl
                          have hcz44_2 : wc.cell? ⟨gb546, 2, none⟩ = some (.int .i64 a1_2) := (blk_cell BK546.out 2).trans rfl
                          have hcz44_3 : wc.cell? ⟨gb546, 3, none⟩ = some (.int .i64 a1_3) := (blk_cell BK546.out 3).trans rfl
                          have hcz44_4 : wc.cell? ⟨gb546, 4, none⟩ = some (.int .i64 a1_4) := (blk_cell BK546.out 4).trans rfl
                          have hcz44_5 : wc.cell? ⟨gb546, 5, none⟩ = some (.slice A1_5 l1_5.length c1_5) := (blk_cell BK546.out 5).trans rfl
                          have hfz44_0 := blk_frozen BK546.out 0
                          have hfz44_1 := blk_frozen BK546.out 1
                          have hfz44_2 := blk_frozen BK546.out 2
                          have hfz44_3 := blk_frozen BK546.out 3
                          have hfz44_4 := blk_frozen BK546.out 4
                          have hfz44_5 := blk_frozen BK546.out 5
                          go_wp2_with (first | (go_at_call 32; (with_reducible refine (slotmeshref04_SameFrame.calls kj16 a0_0 a0_1 a0_2 a0_3 a0_4 _ _ l0_5 a1_0 a1_1 a1_2 a1_3 a1_4 _ _ l1_5 false _ ?side1 ?side2 ?side3 ?side4 A25.out).mono ?_); (case side1 => repeat (first | exact (Kd.C_below HR0_5.out HB.out) | (with_reducible refine Kd.C_alloc ?_ _) | (with_reducible refine Kd.C_drewN ?_ _) | (with_reducible refine Kd.C_drew ?_))); (case side2 => exact HC0_5.out); (case side3 => repeat (first | exact (Kd.C_below HR1_5.out HB.out) | (with_reducible refine Kd.C_alloc ?_ _) | (with_reducible refine Kd.C_drewN ?_ _) | (with_reducible refine Kd.C_drew ?_))); (case side4 => exact HC1_5.out); rintro e w45 ⟨rfl, hb⟩; have n0_ := Aside0.mk (Kd.R_below (by (with_reducible repeat (first | apply Kd.R_alloc | apply Kd.R_drewN | apply Kd.R_drew)); exact HO_6.out) hb); have n1_ := Aside0.mk (Kd.R_below (by (with_reducible repeat (first | apply Kd.R_alloc | apply Kd.R_drewN | apply Kd.R_drew)); exact HO_8.out) hb); have n2_ := Aside0.mk (blk_below (g := gb545) (o := .cells #[.int .i64 a0_0, .int .i64 a0_1, .int .i64 a0_2, .int .i64 a0_3, .int .i64 a0_4, .slice A0_5 l0_5.length c0_5] 24 (0, 0)) (by (with_reducible repeat (first | refine blk_drewN ?_ _ | refine blk_drew ?_ | refine blk_alloc ?_ _)); exact BK545.out) hb); have n3_ := Aside0.mk (blk_below (g := gb546) (o := .cells #[.int .i64 a1_0, .int .i64 a1_1, .int .i64 a1_2, .int .i64 a1_3, .int .i64 a1_4, .slice A1_5 l1_5.length c1_5] 24 (0, 0)) (by (with_reducible repeat (first | refine blk_drewN ?_ _ | refine blk_drew ?_ | refine blk_alloc ?_ _)); exact BK546.out) hb); have n4_ := Aside0.mk (below_step (by repeat (first | (with_reducible first | exact HB.out | apply below_alloc | apply pw_below_drewN | apply below_drew1 | refine below_set ?_ GE545.out | refine below_set ?_ GE546.out) | exact HB.out)) hb); clear HO_6; clear HO_8; clear BK545; clear BK546; clear HB; have HO_6 := n0_; have HO_8 := n1_; have BK545 := n2_; have BK546 := n3_; have HB := n4_; clear n0_ n1_ n2_ n3_ n4_; (try clear hb); (try clear hb2); (try clear hk); (try clear hi); obtain ⟨Ao46, co46, eo46⟩ := Kd.R_slice HO_6.out; subst eo46; obtain ⟨Ao47, co47, eo47⟩ := Kd.R_slice HO_8.out; subst eo47) | (go_at_call 21; (with_reducible refine (slotmeshref04_Same.calls kj16 _ _ t548 _ _ t552 t557 _ ?side1 ?side2 ?side3 ?side4 A28.out).mono ?_); (case side1 => repeat (first | exact (Kd.R_reads' HO_6.out).2.2 | (with_reducible refine Kd.C_alloc ?_ _) | (with_reducible refine Kd.C_drewN ?_ _) | (with_reducible refine Kd.C_drew ?_))); (case side2 => exact (Kd.R_reads' HO_6.out).2.1); (case side3 => repeat (first | exact (Kd.R_reads' HO_8.out).2.2 | (with_reducible refine Kd.C_alloc ?_ _) | (with_reducible refine Kd.C_drewN ?_ _) | (with_reducible refine Kd.C_drew ?_))); (case side4 => exact (Kd.R_reads' HO_8.out).2.1); rintro e w' ⟨rfl, ⟨nd, rfl⟩⟩; (try first | exact ⟨rfl, _, World.drewN_drewN _ _ _⟩ | exact ⟨rfl, _, Eq.trans (World.drewN_drewN _ _ _) (congrArg (World.drewN _) (Nat.add_assoc _ _ _))⟩); have q48 : ((ji26) : Int) ≤ ((t548.length : Int) : Int) := of_decide_eq_true (by first | (with_reducible assumption) | assumption); obtain ⟨i048, hi048, _, hsz48, _⟩ := info_parts info5; have hroom48 : t548.length ≤ co46 := (Kd.R_reads' HO_6.out).2.1; have hC48 : Kd.C (Kd.int .u8) _ Ao46 t548.length t548 := (Kd.R_reads' HO_6.out).2.2; have hcut48 := cut_to (P := Try.prog) 22 5 .i64 Try.underlying22 hi048 Ao46 t548.length co46 (ji26) (of_decide_eq_true (by first | (with_reducible assumption) | assumption)) q48 hroom48; have hr48 := Kd.C_take (m := ((ji26) : Int).toNat) hC48 (by omega); have hy48 : y558.length = ((ji26) : Int).toNat := (by rw [Ny558.out, List.length_take]; omega); rw [← Ny558.out] at hr48; rw [← hy48] at hcut48; have HR561 := Aside0.mk hr48; have HC561 := Aside0.mk (show y558.length ≤ co46 from by omega); clear hr48 hC48 hroom48 hi048 hsz48; have KY48 := Aside0.mk hy48; clear hy48; have KL48 := Aside0.mk (show ((ji26) : Int).toNat ≤ t548.length from by omega); replace q48 := eq_true q48; have q49 : ((ji26) : Int) ≤ ((t552.length : Int) : Int) := of_decide_eq_true (by first | (with_reducible assumption) | assumption); obtain ⟨i049, hi049, _, hsz49, _⟩ := info_parts info5; have hroom49 : t552.length ≤ co47 := (Kd.R_reads' HO_8.out).2.1; have hC49 : Kd.C (Kd.int .u8) _ Ao47 t552.length t552 := (Kd.R_reads' HO_8.out).2.2; have hcut49 := cut_to (P := Try.prog) 22 5 .i64 Try.underlying22 hi049 Ao47 t552.length co47 (ji26) (of_decide_eq_true (by first | (with_reducible assumption) | assumption)) q49 hroom49; have hr49 := Kd.C_take (m := ((ji26) : Int).toNat) hC49 (by omega); have hy49 : y562.length = ((ji26) : Int).toNat := (by rw [Ny562.out, List.length_take]; omega); rw [← Ny562.out] at hr49; rw [← hy49] at hcut49; have HR565 := Aside0.mk hr49; have HC565 := Aside0.mk (show y562.length ≤ co47 from by omega); clear hr49 hC49 hroom49 hi049 hsz49; have KY49 := Aside0.mk hy49; clear hy49; have KL49 := Aside0.mk (show ((ji26) : Int).toNat ≤ t552.length from by omega); replace q49 := eq_true q49) | (go_at_call 21; (with_reducible refine (slotmeshref04_Same.calls kj16 _ _ y558 _ _ y562 t566 _ ?side1 ?side2 ?side3 ?side4 A41.out).mono ?_); (case side1 => repeat (first | exact (by repeat (first | (with_reducible exact HR561.out) | (with_reducible refine Kd.C_alloc ?_ _) | (with_reducible refine Kd.C_drewN ?_ _) | (with_reducible refine Kd.C_drew ?_) | exact HR561.out)) | (with_reducible refine Kd.C_alloc ?_ _) | (with_reducible refine Kd.C_drewN ?_ _) | (with_reducible refine Kd.C_drew ?_))); (case side2 => exact HC561.out); (case side3 => repeat (first | exact (by repeat (first | (with_reducible exact HR565.out) | (with_reducible refine Kd.C_alloc ?_ _) | (with_reducible refine Kd.C_drewN ?_ _) | (with_reducible refine Kd.C_drew ?_) | exact HR565.out)) | (with_reducible refine Kd.C_alloc ?_ _) | (with_reducible refine Kd.C_drewN ?_ _) | (with_reducible refine Kd.C_drew ?_))); (case side4 => exact HC565.out); rintro e w' ⟨rfl, ⟨nd, rfl⟩⟩; (try first | exact ⟨rfl, _, World.drewN_drewN _ _ _⟩ | exact ⟨rfl, _, Eq.trans (World.drewN_drewN _ _ _) (congrArg (World.drewN _) (Nat.add_assoc _ _ _))⟩)))
                          repeat (go_quiet (first | (go_at_call 32; (with_reducible refine (slotmeshref04_SameFrame.calls kj16 a0_0 a0_1 a0_2 a0_3 a0_4 _ _ l0_5 a1_0 a1_1 a1_2 a1_3 a1_4 _ _ l1_5 false _ ?side1 ?side2 ?side3 ?side4 A25.out).mono ?_); (case side1 => repeat (first | exact (Kd.C_below HR0_5.out HB.out) | (with_reducible refine Kd.C_alloc ?_ _) | (with_reducible refine Kd.C_drewN ?_ _) | (with_reducible refine Kd.C_drew ?_))); (case side2 => exact HC0_5.out); (case side3 => repeat (first | exact (Kd.C_below HR1_5.out HB.out) | (with_reducible refine Kd.C_alloc ?_ _) | (with_reducible refine Kd.C_drewN ?_ _) | (with_reducible refine Kd.C_drew ?_))); (case side4 => exact HC1_5.out); rintro e w45 ⟨rfl, hb⟩; have n0_ := Aside0.mk (Kd.R_below (by (with_reducible repeat (first | apply Kd.R_alloc | apply Kd.R_drewN | apply Kd.R_drew)); exact HO_6.out) hb); have n1_ := Aside0.mk (Kd.R_below (by (with_reducible repeat (first | apply Kd.R_alloc | apply Kd.R_drewN | apply Kd.R_drew)); exact HO_8.out) hb); have n2_ := Aside0.mk (blk_below (g := gb545) (o := .cells #[.int .i64 a0_0, .int .i64 a0_1, .int .i64 a0_2, .int .i64 a0_3, .int .i64 a0_4, .slice A0_5 l0_5.length c0_5] 24 (0, 0)) (by (with_reducible repeat (first | refine blk_drewN ?_ _ | refine blk_drew ?_ | refine blk_alloc ?_ _)); exact BK545.out) hb); have n3_ := Aside0.mk (blk_below (g := gb546) (o := .cells #[.int .i64 a1_0, .int .i64 a1_1, .int .i64 a1_2, .int .i64 a1_3, .int .i64 a1_4, .slice A1_5 l1_5.length c1_5] 24 (0, 0)) (by (with_reducible repeat (first | refine blk_drewN ?_ _ | refine blk_drew ?_ | refine blk_alloc ?_ _)); exact BK546.out) hb); have n4_ := Aside0.mk (below_step (by repeat (first | (with_reducible first | exact HB.out | apply below_alloc | apply pw_below_drewN | apply below_drew1 | refine below_set ?_ GE545.out | refine below_set ?_ GE546.out) | exact HB.out)) hb); clear HO_6; clear HO_8; clear BK545; clear BK546; clear HB; have HO_6 := n0_; have HO_8 := n1_; have BK545 := n2_; have BK546 := n3_; have HB := n4_; clear n0_ n1_ n2_ n3_ n4_; (try clear hb); (try clear hb2); (try clear hk); (try clear hi); obtain ⟨Ao46, co46, eo46⟩ := Kd.R_slice HO_6.out; subst eo46; obtain ⟨Ao47, co47, eo47⟩ := Kd.R_slice HO_8.out; subst eo47) | (go_at_call 21; (with_reducible refine (slotmeshref04_Same.calls kj16 _ _ t548 _ _ t552 t557 _ ?side1 ?side2 ?side3 ?side4 A28.out).mono ?_); (case side1 => repeat (first | exact (Kd.R_reads' HO_6.out).2.2 | (with_reducible refine Kd.C_alloc ?_ _) | (with_reducible refine Kd.C_drewN ?_ _) | (with_reducible refine Kd.C_drew ?_))); (case side2 => exact (Kd.R_reads' HO_6.out).2.1); (case side3 => repeat (first | exact (Kd.R_reads' HO_8.out).2.2 | (with_reducible refine Kd.C_alloc ?_ _) | (with_reducible refine Kd.C_drewN ?_ _) | (with_reducible refine Kd.C_drew ?_))); (case side4 => exact (Kd.R_reads' HO_8.out).2.1); rintro e w' ⟨rfl, ⟨nd, rfl⟩⟩; (try first | exact ⟨rfl, _, World.drewN_drewN _ _ _⟩ | exact ⟨rfl, _, Eq.trans (World.drewN_drewN _ _ _) (congrArg (World.drewN _) (Nat.add_assoc _ _ _))⟩); have q48 : ((ji26) : Int) ≤ ((t548.length : Int) : Int) := of_decide_eq_true (by first | (with_reducible assumption) | assumption); obtain ⟨i048, hi048, _, hsz48, _⟩ := info_parts info5; have hroom48 : t548.length ≤ co46 := (Kd.R_reads' HO_6.out).2.1; have hC48 : Kd.C (Kd.int .u8) _ Ao46 t548.length t548 := (Kd.R_reads' HO_6.out).2.2; have hcut48 := cut_to (P := Try.prog) 22 5 .i64 Try.underlying22 hi048 Ao46 t548.length co46 (ji26) (of_decide_eq_true (by first | (with_reducible assumption) | assumption)) q48 hroom48; have hr48 := Kd.C_take (m := ((ji26) : Int).toNat) hC48 (by omega); have hy48 : y558.length = ((ji26) : Int).toNat := (by rw [Ny558.out, List.length_take]; omega); rw [← Ny558.out] at hr48; rw [← hy48] at hcut48; have HR561 := Aside0.mk hr48; have HC561 := Aside0.mk (show y558.length ≤ co46 from by omega); clear hr48 hC48 hroom48 hi048 hsz48; have KY48 := Aside0.mk hy48; clear hy48; have KL48 := Aside0.mk (show ((ji26) : Int).toNat ≤ t548.length from by omega); replace q48 := eq_true q48; have q49 : ((ji26) : Int) ≤ ((t552.length : Int) : Int) := of_decide_eq_true (by first | (with_reducible assumption) | assumption); obtain ⟨i049, hi049, _, hsz49, _⟩ := info_parts info5; have hroom49 : t552.length ≤ co47 := (Kd.R_reads' HO_8.out).2.1; have hC49 : Kd.C (Kd.int .u8) _ Ao47 t552.length t552 := (Kd.R_reads' HO_8.out).2.2; have hcut49 := cut_to (P := Try.prog) 22 5 .i64 Try.underlying22 hi049 Ao47 t552.length co47 (ji26) (of_decide_eq_true (by first | (with_reducible assumption) | assumption)) q49 hroom49; have hr49 := Kd.C_take (m := ((ji26) : Int).toNat) hC49 (by omega); have hy49 : y562.length = ((ji26) : Int).toNat := (by rw [Ny562.out, List.length_take]; omega); rw [← Ny562.out] at hr49; rw [← hy49] at hcut49; have HR565 := Aside0.mk hr49; have HC565 := Aside0.mk (show y562.length ≤ co47 from by omega); clear hr49 hC49 hroom49 hi049 hsz49; have KY49 := Aside0.mk hy49; clear hy49; have KL49 := Aside0.mk (show ((ji26) : Int).toNat ≤ t552.length from by omega); replace q49 := eq_true q49) | (go_at_call 21; (with_reducible refine (slotmeshref04_Same.calls kj16 _ _ y558 _ _ y562 t566 _ ?side1 ?side2 ?side3 ?side4 A41.out).mono ?_); (case side1 => repeat (first | exact (by repeat (first | (with_reducible exact HR561.out) | (with_reducible refine Kd.C_alloc ?_ _) | (with_reducible refine Kd.C_drewN ?_ _) | (with_reducible refine Kd.C_drew ?_) | exact HR561.out)) | (with_reducible refine Kd.C_alloc ?_ _) | (with_reducible refine Kd.C_drewN ?_ _) | (with_reducible refine Kd.C_drew ?_))); (case side2 => exact HC561.out); (case side3 => repeat (first | exact (by repeat (first | (with_reducible exact HR565.out) | (with_reducible refine Kd.C_alloc ?_ _) | (with_reducible refine Kd.C_drewN ?_ _) | (with_reducible refine Kd.C_drew ?_) | exact HR565.out)) | (with_reducible refine Kd.C_alloc ?_ _) | (with_reducible refine Kd.C_drewN ?_ _) | (with_reducible refine Kd.C_drew ?_))); (case side4 => exact HC565.out); rintro e w' ⟨rfl, ⟨nd, rfl⟩⟩; (try first | exact ⟨rfl, _, World.drewN_drewN _ _ _⟩ | exact ⟨rfl, _, Eq.trans (World.drewN_drewN _ _ _) (congrArg (World.drewN _) (Nat.add_assoc _ _ _))⟩))); try go_wp2_with (first | (go_at_call 32; (with_reducible refine (slotmeshref04_SameFrame.calls kj16 a0_0 a0_1 a0_2 a0_3 a0_4 _ _ l0_5 a1_0 a1_1 a1_2 a1_3 a1_4 _ _ l1_5 false _ ?side1 ?side2 ?side3 ?side4 A25.out).mono ?_); (case side1 => repeat (first | exact (Kd.C_below HR0_5.out HB.out) | (with_reducible refine Kd.C_alloc ?_ _) | (with_reducible refine Kd.C_drewN ?_ _) | (with_reducible refine Kd.C_drew ?_))); (case side2 => exact HC0_5.out); (case side3 => repeat (first | exact (Kd.C_below HR1_5.out HB.out) | (with_reducible refine Kd.C_alloc ?_ _) | (with_reducible refine Kd.C_drewN ?_ _) | (with_reducible refine Kd.C_drew ?_))); (case side4 => exact HC1_5.out); rintro e w45 ⟨rfl, hb⟩; have n0_ := Aside0.mk (Kd.R_below (by (with_reducible repeat (first | apply Kd.R_alloc | apply Kd.R_drewN | apply Kd.R_drew)); exact HO_6.out) hb); have n1_ := Aside0.mk (Kd.R_below (by (with_reducible repeat (first | apply Kd.R_alloc | apply Kd.R_drewN | apply Kd.R_drew)); exact HO_8.out) hb); have n2_ := Aside0.mk (blk_below (g := gb545) (o := .cells #[.int .i64 a0_0, .int .i64 a0_1, .int .i64 a0_2, .int .i64 a0_3, .int .i64 a0_4, .slice A0_5 l0_5.length c0_5] 24 (0, 0)) (by (with_reducible repeat (first | refine blk_drewN ?_ _ | refine blk_drew ?_ | refine blk_alloc ?_ _)); exact BK545.out) hb); have n3_ := Aside0.mk (blk_below (g := gb546) (o := .cells #[.int .i64 a1_0, .int .i64 a1_1, .int .i64 a1_2, .int .i64 a1_3, .int .i64 a1_4, .slice A1_5 l1_5.length c1_5] 24 (0, 0)) (by (with_reducible repeat (first | refine blk_drewN ?_ _ | refine blk_drew ?_ | refine blk_alloc ?_ _)); exact BK546.out) hb); have n4_ := Aside0.mk (below_step (by repeat (first | (with_reducible first | exact HB.out | apply below_alloc | apply pw_below_drewN | apply below_drew1 | refine below_set ?_ GE545.out | refine below_set ?_ GE546.out) | exact HB.out)) hb); clear HO_6; clear HO_8; clear BK545; clear BK546; clear HB; have HO_6 := n0_; have HO_8 := n1_; have BK545 := n2_; have BK546 := n3_; have HB := n4_; clear n0_ n1_ n2_ n3_ n4_; (try clear hb); (try clear hb2); (try clear hk); (try clear hi); obtain ⟨Ao46, co46, eo46⟩ := Kd.R_slice HO_6.out; subst eo46; obtain ⟨Ao47, co47, eo47⟩ := Kd.R_slice HO_8.out; subst eo47) | (go_at_call 21; (with_reducible refine (slotmeshref04_Same.calls kj16 _ _ t548 _ _ t552 t557 _ ?side1 ?side2 ?side3 ?side4 A28.out).mono ?_); (case side1 => repeat (first | exact (Kd.R_reads' HO_6.out).2.2 | (with_reducible refine Kd.C_alloc ?_ _) | (with_reducible refine Kd.C_drewN ?_ _) | (with_reducible refine Kd.C_drew ?_))); (case side2 => exact (Kd.R_reads' HO_6.out).2.1); (case side3 => repeat (first | exact (Kd.R_reads' HO_8.out).2.2 | (with_reducible refine Kd.C_alloc ?_ _) | (with_reducible refine Kd.C_drewN ?_ _) | (with_reducible refine Kd.C_drew ?_))); (case side4 => exact (Kd.R_reads' HO_8.out).2.1); rintro e w' ⟨rfl, ⟨nd, rfl⟩⟩; (try first | exact ⟨rfl, _, World.drewN_drewN _ _ _⟩ | exact ⟨rfl, _, Eq.trans (World.drewN_drewN _ _ _) (congrArg (World.drewN _) (Nat.add_assoc _ _ _))⟩); have q48 : ((ji26) : Int) ≤ ((t548.length : Int) : Int) := of_decide_eq_true (by first | (with_reducible assumption) | assumption); obtain ⟨i048, hi048, _, hsz48, _⟩ := info_parts info5; have hroom48 : t548.length ≤ co46 := (Kd.R_reads' HO_6.out).2.1; have hC48 : Kd.C (Kd.int .u8) _ Ao46 t548.length t548 := (Kd.R_reads' HO_6.out).2.2; have hcut48 := cut_to (P := Try.prog) 22 5 .i64 Try.underlying22 hi048 Ao46 t548.length co46 (ji26) (of_decide_eq_true (by first | (with_reducible assumption) | assumption)) q48 hroom48; have hr48 := Kd.C_take (m := ((ji26) : Int).toNat) hC48 (by omega); have hy48 : y558.length = ((ji26) : Int).toNat := (by rw [Ny558.out, List.length_take]; omega); rw [← Ny558.out] at hr48; rw [← hy48] at hcut48; have HR561 := Aside0.mk hr48; have HC561 := Aside0.mk (show y558.length ≤ co46 from by omega); clear hr48 hC48 hroom48 hi048 hsz48; have KY48 := Aside0.mk hy48; clear hy48; have KL48 := Aside0.mk (show ((ji26) : Int).toNat ≤ t548.length from by omega); replace q48 := eq_true q48; have q49 : ((ji26) : Int) ≤ ((t552.length : Int) : Int) := of_decide_eq_true (by first | (with_reducible assumption) | assumption); obtain ⟨i049, hi049, _, hsz49, _⟩ := info_parts info5; have hroom49 : t552.length ≤ co47 := (Kd.R_reads' HO_8.out).2.1; have hC49 : Kd.C (Kd.int .u8) _ Ao47 t552.length t552 := (Kd.R_reads' HO_8.out).2.2; have hcut49 := cut_to (P := Try.prog) 22 5 .i64 Try.underlying22 hi049 Ao47 t552.length co47 (ji26) (of_decide_eq_true (by first | (with_reducible assumption) | assumption)) q49 hroom49; have hr49 := Kd.C_take (m := ((ji26) : Int).toNat) hC49 (by omega); have hy49 : y562.length = ((ji26) : Int).toNat := (by rw [Ny562.out, List.length_take]; omega); rw [← Ny562.out] at hr49; rw [← hy49] at hcut49; have HR565 := Aside0.mk hr49; have HC565 := Aside0.mk (show y562.length ≤ co47 from by omega); clear hr49 hC49 hroom49 hi049 hsz49; have KY49 := Aside0.mk hy49; clear hy49; have KL49 := Aside0.mk (show ((ji26) : Int).toNat ≤ t552.length from by omega); replace q49 := eq_true q49) | (go_at_call 21; (with_reducible refine (slotmeshref04_Same.calls kj16 _ _ y558 _ _ y562 t566 _ ?side1 ?side2 ?side3 ?side4 A41.out).mono ?_); (case side1 => repeat (first | exact (by repeat (first | (with_reducible exact HR561.out) | (with_reducible refine Kd.C_alloc ?_ _) | (with_reducible refine Kd.C_drewN ?_ _) | (with_reducible refine Kd.C_drew ?_) | exact HR561.out)) | (with_reducible refine Kd.C_alloc ?_ _) | (with_reducible refine Kd.C_drewN ?_ _) | (with_reducible refine Kd.C_drew ?_))); (case side2 => exact HC561.out); (case side3 => repeat (first | exact (by repeat (first | (with_reducible exact HR565.out) | (with_reducible refine Kd.C_alloc ?_ _) | (with_reducible refine Kd.C_drewN ?_ _) | (with_reducible refine Kd.C_drew ?_) | exact HR565.out)) | (with_reducible refine Kd.C_alloc ?_ _) | (with_reducible refine Kd.C_drewN ?_ _) | (with_reducible refine Kd.C_drew ?_))); (case side4 => exact HC565.out); rintro e w' ⟨rfl, ⟨nd, rfl⟩⟩; (try first | exact ⟨rfl, _, World.drewN_drewN _ _ _⟩ | exact ⟨rfl, _, Eq.trans (World.drewN_drewN _ _ _) (congrArg (World.drewN _) (Nat.add_assoc _ _ _))⟩))))
                          go_ret
                          exact ⟨by first | rfl | (simp [errW_none, errW_some] <;> rfl) | (simp only [← hji26]; first | rfl | (simp [errW_none, errW_some] <;> rfl)) | (simp [*, errW_none, errW_some] <;> rfl), by repeat (first | (with_reducible first | exact HB.out | apply below_alloc | apply pw_below_drewN | apply below_drew1 | refine below_set ?_ GE545.out | refine below_set ?_ GE546.out) | exact HB.out)⟩
                        · rw [if_neg c40] at H
                          exact absurd H (by simp)
                      · rw [if_neg c38] at H
                        exact absurd H (by simp)
                    · rw [if_neg c37] at H
                      exact absurd H (by simp)
                · rw [if_neg c29] at H
                  exact absurd H (by simp)
              · replace c27 := Bool.eq_false_iff.mpr c27
                subst c27
                have H1 : (none) = some r := by rw [if_neg (show ¬ (false = true) by decide)] at H; exact H
                clear H
                have H := H1
                clear H1
                exact absurd H (by simp)

end Go.Proofs.Ytanipbjbaalomaa.PWire
