-- A text of this claim, written by this session's program. -- SLIM
import Derived.Test.YtjibgfihfbdcaaaWGuard
import Derived.Test.YtjibgfihfbdcaaaPSeenx0
namespace Go.Proofs.Ytjibgfihfbdcaaa.PSeen
open Go.RowKit Go.Proofs.YtjibgfihfbdcaaaW.PrintWords Go.Proofs.YtjibgfihfbdcaaaW.PrintLast Go.Proofs.YtjibgfihfbdcaaaW.PrintMore
attribute [local go_sem] max2_int min2_int max_two min_two max_three min_three max_four min_four   -- for this text's walks alone
set_option linter.unusedVariables false
set_option linter.unusedSimpArgs false

/-! ### slotmeshref26_Many: function 25 -/
def slotmeshref26_Many.l0 : Nat → List (S45) → Int → Int → Option (Int)
 | 0, _, _, _ => none
 | k + 1, x0, x3, x4 => if x4 < (x0.length : Int) then (if 0 ≤ x4 then (slotmeshref26_Many.l0 k x0 (wrap64 (x3 + (((rd_T45 x0 x4).f1).length : Int))) (wrap64 (x4 + 1))) else (none)) else (some x3)
def slotmeshref26_Many.f (k : Nat) (l0 : List (S45)) : Option (Int) := slotmeshref26_Many.l0 k l0 0 0
theorem slotmeshref26_Many.mono_l : ∀ k, (∀ y0 y1 y2, LeO (slotmeshref26_Many.l0 k y0 y1 y2) (slotmeshref26_Many.l0 (k + 1) y0 y1 y2))
 | 0 => fun _ _ _ r h => by simp [slotmeshref26_Many.l0] at h
 | k + 1 => by
  have ih0 := slotmeshref26_Many.mono_l k
  ·intro y0 y1 y2
   unfold slotmeshref26_Many.l0
   repeat' first
   | (with_reducible exact ih0 _ _ _)
   | (with_reducible exact LeO.refl _)
   | (with_reducible exact LeO.none _)
   | (with_reducible refine LeO.ite ?_ ?_)
   | (with_reducible refine LeO.bind ?_ (fun _ => ?_))
   | exact ih0 _ _ _
   | exact LeO.none _
   | refine LeO.ite ?_ ?_
   | refine LeO.bind ?_ (fun _ => ?_)
theorem slotmeshref26_Many.mono : ∀ a0 k, LeO (slotmeshref26_Many.f k a0) (slotmeshref26_Many.f (k + 1) a0) := by
 intro a0 k
 have ih0 := slotmeshref26_Many.mono_l k
 unfold slotmeshref26_Many.f
 repeat' first
   | (with_reducible exact ih0 _ _ _)
   | (with_reducible exact LeO.refl _)
   | (with_reducible exact LeO.none _)
   | (with_reducible refine LeO.ite ?_ ?_)
   | (with_reducible refine LeO.bind ?_ (fun _ => ?_))
   | exact ih0 _ _ _
   | exact LeO.none _
   | refine LeO.ite ?_ ?_
   | refine LeO.bind ?_ (fun _ => ?_)
set_option maxHeartbeats 8000000 in
set_option maxRecDepth 100000 in
theorem slotmeshref26_Many.calls (k : Nat) (A0 : Option Addr) (c0 : Nat) (l0 : List (S45)) (r : Int) (w : World) (hr0 : Kd.C k45 w A0 l0.length l0) (hc0 : l0.length ≤ c0) (h : slotmeshref26_Many.f k l0 = some r) :
  Calls Try.prog 25 #[.slice A0 l0.length c0] w fun e w' => e = .returned (.int .i64 r) ∧ Drawn0 w w' := by
 have HR0 := Aside0.mk hr0
 have HC0 := Aside0.mk hc0
 clear hr0 hc0
 have H : (slotmeshref26_Many.l0 k l0 0 0) = some r := h
 clear h
 have H' := Aside0.mk H
 clear H
 go_enter Try.func25, Try.ntmps25
 go_wp2
 go_loopg [3, 4] k (fun kq v3 v4 w' => ∃ (x3_1 : Int) (x4_1 : Int), v3 = .int .i64 x3_1 ∧ v4 = .int .i64 x4_1 ∧ Aside0 (slotmeshref26_Many.l0 kq l0 x3_1 x4_1 = some r) ∧ Aside0 (kq ≤ k) ∧ Drawn0 w w')
 case atStart => exact ⟨(0), (0), (by first | rfl | (simp; done) | (simp [*]; done)), (by first | rfl | (simp; done) | (simp [*]; done)), H', ⟨Nat.le_refl _⟩, by repeat (first | exact Drawn0.refl _ | apply Drawn0.step)⟩
 case round =>
  clear H'
  obtain ⟨x3_1, x4_1, rfl, rfl, HA, HK1, ⟨m1, rfl⟩⟩ := hrel
  cases gk with
  | zero => exact absurd HA.out (by simp [slotmeshref26_Many.l0])
  | succ k1 =>
   have H := HA.out
   clear HA
   simp only [slotmeshref26_Many.l0] at H
   by_cases c2 : x4_1 < (l0.length : Int)
   ·rw [if_pos c2] at H
    have c2b0 : decide (x4_1 < (l0.length : Int)) = true := decide_eq_true c2
    clear c2
    by_cases c3 : 0 ≤ x4_1
    ·rw [if_pos c3] at H
     have c3b0 : decide (0 ≤ x4_1) = true := decide_eq_true c3
     clear c3
     have H' := Aside0.mk H
     clear H
     have p199 : 0 ≤ (x4_1 : Int) := of_decide_eq_true (by first | (with_reducible assumption) | assumption)
     have q199 : x4_1 < (l0.length : Int) := of_decide_eq_true (by first | (with_reducible assumption) | assumption)
     obtain ⟨ad199, A199_1, c199_1, e199, hx199_0, hx199_1, hl199_1, hi199_1⟩ := at_T45 HR0.out x4_1 p199 q199
     cases e199
     have HR199_1 := Aside0.mk hi199_1
     have HC199_1 := Aside0.mk hl199_1
     clear hi199_1 hl199_1
     replace p199 := eq_true p199
     replace q199 := eq_true q199
     go_wp2
     go_roundg k1
     case measure => have := HK1.out; omega
     case rel => exact ⟨(wrap64 (x3_1 + (((rd_T45 l0 x4_1).f1).length : Int))), (wrap64 (x4_1 + 1)), (by first | rfl | (simp; done) | (simp [*]; done)), (by first | rfl | (simp; done) | (simp [*]; done)), H', ⟨by have := HK1.out; omega⟩, by repeat (first | exact Drawn0.refl _ | apply Drawn0.step)⟩
    ·rw [if_neg c3] at H
     exact absurd H (by simp)
   ·rw [if_neg c2] at H
    have c2b0 : decide (x4_1 < (l0.length : Int)) = false := decide_eq_false c2
    clear c2
    obtain rfl := Option.some.inj H
    go_wp2
    go_ret
    exact ⟨by first | rfl | (simp; done) | (simp [*]; done), by repeat (first | exact Drawn0.refl _ | apply Drawn0.step)⟩

/-! ### slotmeshref26_Few: function 10 -/
def slotmeshref26_Few.f (k : Nat) (l0 : List (S45)) : Option (Bool) := if (l0.length : Int) ≤ 100 then ((slotmeshref26_Many.f k l0).bind fun t200 => (some (decide (t200 ≤ 100)))) else (some false)
theorem slotmeshref26_Few.mono : ∀ a0 k, LeO (slotmeshref26_Few.f k a0) (slotmeshref26_Few.f (k + 1) a0) := by
 intro a0 k
 unfold slotmeshref26_Few.f
 repeat' first
   | (with_reducible exact slotmeshref26_Many.mono _ _)
   | (with_reducible exact LeO.refl _)
   | (with_reducible exact LeO.none _)
   | (with_reducible refine LeO.ite ?_ ?_)
   | (with_reducible refine LeO.bind ?_ (fun _ => ?_))
   | exact slotmeshref26_Many.mono _ _
   | exact LeO.none _
   | refine LeO.ite ?_ ?_
   | refine LeO.bind ?_ (fun _ => ?_)
set_option maxHeartbeats 8000000 in
set_option maxRecDepth 100000 in
theorem slotmeshref26_Few.calls (k : Nat) (A0 : Option Addr) (c0 : Nat) (l0 : List (S45)) (r : Bool) (w : World) (hr0 : Kd.C k45 w A0 l0.length l0) (hc0 : l0.length ≤ c0) (h : slotmeshref26_Few.f k l0 = some r) :
  Calls Try.prog 10 #[.slice A0 l0.length c0] w fun e w' => e = .returned (.bool r) ∧ Drawn0 w w' := by
 have HR0 := Aside0.mk hr0
 have HC0 := Aside0.mk hc0
 clear hr0 hc0
 have H : (if (l0.length : Int) ≤ 100 then ((slotmeshref26_Many.f k l0).bind fun t200 => (some (decide (t200 ≤ 100)))) else (some false)) = some r := h
 clear h
 by_cases c2 : (l0.length : Int) ≤ 100
 ·rw [if_pos c2] at H
  have c2b0 : decide ((l0.length : Int) ≤ 100) = true := decide_eq_true c2
  have c2b1 : decide (l0.length ≤ 100) = true := decide_eq_true (by omega)
  clear c2
  replace H := Option.bind_eq_some_iff.mp H
  obtain ⟨t200, A30, H⟩ := H
  replace H : (some (decide (t200 ≤ 100))) = some r := H
  have A3 := Aside0.mk A30
  clear A30
  obtain rfl := Option.some.inj H
  go_enter Try.func10, Try.ntmps10
  go_wp2_with (first | (go_at_call 25; (with_reducible refine (slotmeshref26_Many.calls k _ _ l0 t200 _ ?side1 ?side2 A3.out).mono ?_); (case side1 => repeat (first | exact HR0.out | (with_reducible refine Kd.C_alloc ?_ _) | (with_reducible refine Kd.C_drewN ?_ _) | (with_reducible refine Kd.C_drew ?_))); (case side2 => exact HC0.out); rintro e w' ⟨rfl, ⟨nd, rfl⟩⟩))
  go_ret
  exact ⟨by first | rfl | (simp; done) | (simp [*]; done), by repeat (first | exact Drawn0.refl _ | apply Drawn0.step)⟩
 ·rw [if_neg c2] at H
  have c2b0 : decide ((l0.length : Int) ≤ 100) = false := decide_eq_false c2
  have c2b1 : decide (l0.length ≤ 100) = false := decide_eq_false (by omega)
  clear c2
  obtain rfl := Option.some.inj H
  go_enter Try.func10, Try.ntmps10
  go_wp2
  go_ret
  exact ⟨by first | rfl | (simp; done) | (simp [*]; done), by repeat (first | exact Drawn0.refl _ | apply Drawn0.step)⟩

/-! ### slotmeshref26_Valid: function 14 -/
mutual
def slotmeshref26_Valid.l0 : Nat → List (S45) → Int → Option (Bool)
 | 0, _, _ => none
 | k + 1, x0, x3 => if x3 < (x0.length : Int) then (if 0 ≤ x3 then (if ((rd_T45 x0 x3).f0) < 0 then (slotmeshref26_Valid.j1 k x0 x3 true ((rd_T45 x0 x3).f0) ((rd_T45 x0 x3).f1)) else (if ((rd_T45 x0 x3).f0) ≥ 60 then (slotmeshref26_Valid.j1 k x0 x3 true ((rd_T45 x0 x3).f0) ((rd_T45 x0 x3).f1)) else (if x3 > 0 then (if 0 ≤ (wrap64 (x3 - 1)) then (if (wrap64 (x3 - 1)) < (x0.length : Int) then (if ((rd_T45 x0 x3).f0) ≤ ((rd_T45 x0 (wrap64 (x3 - 1))).f0) then (slotmeshref26_Valid.j1 k x0 x3 true ((rd_T45 x0 x3).f0) ((rd_T45 x0 x3).f1)) else (slotmeshref26_Valid.j1 k x0 x3 ((((rd_T45 x0 x3).f1).length : Int) == 0) ((rd_T45 x0 x3).f0) ((rd_T45 x0 x3).f1))) else (none)) else (none)) else (slotmeshref26_Valid.j1 k x0 x3 ((((rd_T45 x0 x3).f1).length : Int) == 0) ((rd_T45 x0 x3).f0) ((rd_T45 x0 x3).f1))))) else (none)) else ((slotmeshref26_Many.f k x0).bind fun t201 => (some (decide (t201 ≤ 64))))
def slotmeshref26_Valid.j1 : Nat → List (S45) → Int → Bool → Int → List (S47) → Option (Bool)
 | 0, _, _, _, _, _ => none
 | k + 1, x0, x3, x45, x204000, x204001 => if x45 = true then (some false) else (slotmeshref26_Valid.l1 k x0 x3 0 x204000 x204001)
def slotmeshref26_Valid.l1 : Nat → List (S45) → Int → Int → Int → List (S47) → Option (Bool)
 | 0, _, _, _, _, _ => none
 | k + 1, x0, x3, x5, x204000, x204001 => if x5 < (x204001.length : Int) then (if 0 ≤ x5 then (if ((rd_T47 x204001 x5).f0) < 1 then (some false) else (if ((rd_T47 x204001 x5).f0) > ((rd_T47 x204001 x5).f1) then (some false) else (if ((rd_T47 x204001 x5).f1) > 1000000000 then (some false) else (if x5 > 0 then (if 0 ≤ (wrap64 (x5 - 1)) then (if (wrap64 (x5 - 1)) < (x204001.length : Int) then (if ((rd_T47 x204001 x5).f0) < (wrap64 (((rd_T47 x204001 (wrap64 (x5 - 1))).f1) + 2)) then (some false) else (slotmeshref26_Valid.l1 k x0 x3 (wrap64 (x5 + 1)) x204000 x204001)) else (none)) else (none)) else (slotmeshref26_Valid.l1 k x0 x3 (wrap64 (x5 + 1)) x204000 x204001))))) else (none)) else (slotmeshref26_Valid.l0 k x0 (wrap64 (x3 + 1)))
end
def slotmeshref26_Valid.f (k : Nat) (l0 : List (S45)) : Option (Bool) := slotmeshref26_Valid.l0 k l0 0
theorem slotmeshref26_Valid.mono_l : ∀ k, (∀ y0 y1, LeO (slotmeshref26_Valid.l0 k y0 y1) (slotmeshref26_Valid.l0 (k + 1) y0 y1)) ∧ (∀ y0 y1 y2 y3 y4, LeO (slotmeshref26_Valid.j1 k y0 y1 y2 y3 y4) (slotmeshref26_Valid.j1 (k + 1) y0 y1 y2 y3 y4)) ∧ (∀ y0 y1 y2 y3 y4, LeO (slotmeshref26_Valid.l1 k y0 y1 y2 y3 y4) (slotmeshref26_Valid.l1 (k + 1) y0 y1 y2 y3 y4))
 | 0 => ⟨fun _ _ r h => by simp [slotmeshref26_Valid.l0] at h, fun _ _ _ _ _ r h => by simp [slotmeshref26_Valid.j1] at h, fun _ _ _ _ _ r h => by simp [slotmeshref26_Valid.l1] at h⟩
 | k + 1 => by
  obtain ⟨ih0, ih1, ih2⟩ := slotmeshref26_Valid.mono_l k
  refine ⟨?_, ?_, ?_⟩
  ·intro y0 y1
   unfold slotmeshref26_Valid.l0
   repeat' first
   | (with_reducible exact ih0 _ _)
   | (with_reducible exact ih1 _ _ _ _ _)
   | (with_reducible exact ih2 _ _ _ _ _)
   | (with_reducible exact slotmeshref26_Many.mono _ _)
   | (with_reducible exact LeO.refl _)
   | (with_reducible exact LeO.none _)
   | (with_reducible refine LeO.ite ?_ ?_)
   | (with_reducible refine LeO.bind ?_ (fun _ => ?_))
   | exact ih0 _ _
   | exact ih1 _ _ _ _ _
   | exact ih2 _ _ _ _ _
   | exact slotmeshref26_Many.mono _ _
   | exact LeO.none _
   | refine LeO.ite ?_ ?_
   | refine LeO.bind ?_ (fun _ => ?_)
  ·intro y0 y1 y2 y3 y4
   unfold slotmeshref26_Valid.j1
   repeat' first
   | (with_reducible exact ih0 _ _)
   | (with_reducible exact ih1 _ _ _ _ _)
   | (with_reducible exact ih2 _ _ _ _ _)
   | (with_reducible exact slotmeshref26_Many.mono _ _)
   | (with_reducible exact LeO.refl _)
   | (with_reducible exact LeO.none _)
   | (with_reducible refine LeO.ite ?_ ?_)
   | (with_reducible refine LeO.bind ?_ (fun _ => ?_))
   | exact ih0 _ _
   | exact ih1 _ _ _ _ _
   | exact ih2 _ _ _ _ _
   | exact slotmeshref26_Many.mono _ _
   | exact LeO.none _
   | refine LeO.ite ?_ ?_
   | refine LeO.bind ?_ (fun _ => ?_)
  ·intro y0 y1 y2 y3 y4
   unfold slotmeshref26_Valid.l1
   repeat' first
   | (with_reducible exact ih0 _ _)
   | (with_reducible exact ih1 _ _ _ _ _)
   | (with_reducible exact ih2 _ _ _ _ _)
   | (with_reducible exact slotmeshref26_Many.mono _ _)
   | (with_reducible exact LeO.refl _)
   | (with_reducible exact LeO.none _)
   | (with_reducible refine LeO.ite ?_ ?_)
   | (with_reducible refine LeO.bind ?_ (fun _ => ?_))
   | exact ih0 _ _
   | exact ih1 _ _ _ _ _
   | exact ih2 _ _ _ _ _
   | exact slotmeshref26_Many.mono _ _
   | exact LeO.none _
   | refine LeO.ite ?_ ?_
   | refine LeO.bind ?_ (fun _ => ?_)
theorem slotmeshref26_Valid.mono : ∀ a0 k, LeO (slotmeshref26_Valid.f k a0) (slotmeshref26_Valid.f (k + 1) a0) := by
 intro a0 k
 obtain ⟨ih0, ih1, ih2⟩ := slotmeshref26_Valid.mono_l k
 unfold slotmeshref26_Valid.f
 repeat' first
   | (with_reducible exact ih0 _ _)
   | (with_reducible exact ih1 _ _ _ _ _)
   | (with_reducible exact ih2 _ _ _ _ _)
   | (with_reducible exact slotmeshref26_Many.mono _ _)
   | (with_reducible exact LeO.refl _)
   | (with_reducible exact LeO.none _)
   | (with_reducible refine LeO.ite ?_ ?_)
   | (with_reducible refine LeO.bind ?_ (fun _ => ?_))
   | exact ih0 _ _
   | exact ih1 _ _ _ _ _
   | exact ih2 _ _ _ _ _
   | exact slotmeshref26_Many.mono _ _
   | exact LeO.none _
   | refine LeO.ite ?_ ?_
   | refine LeO.bind ?_ (fun _ => ?_)
set_option maxHeartbeats 8000000 in
set_option maxRecDepth 100000 in
theorem slotmeshref26_Valid.calls (k : Nat) (A0 : Option Addr) (c0 : Nat) (l0 : List (S45)) (r : Bool) (w : World) (hr0 : Kd.C k45 w A0 l0.length l0) (hc0 : l0.length ≤ c0) (h : slotmeshref26_Valid.f k l0 = some r) :
  Calls Try.prog 14 #[.slice A0 l0.length c0] w fun e w' => e = .returned (.bool r) ∧ Below w.heap.size w w' := by
 have hu45 := Try.underlying45
 have hu47 := Try.underlying47
 have HR0 := Aside0.mk hr0
 have HC0 := Aside0.mk hc0
 clear hr0 hc0
 have HB := Aside0.mk (Below.refl w.heap.size w)
 have H : (slotmeshref26_Valid.l0 k l0 0) = some r := h
 clear h
 have H' := Aside0.mk H
 clear H
 go_enter Try.func14, Try.ntmps14
 go_wp2
 repeat (go_quiet (fail); try go_wp2)
 go_loopg [3] k (fun kq v3 w' => ∃ (x3_1 : Int), v3 = .int .i64 x3_1 ∧ Aside0 (slotmeshref26_Valid.l0 kq l0 x3_1 = some r) ∧ Aside0 (kq ≤ k) ∧ Aside0 (Below w.heap.size w w'))
 case atStart => exact ⟨(0), (by first | rfl | (simp; done) | (simp [*]; done)), H', ⟨Nat.le_refl _⟩, ⟨by repeat (first | (with_reducible first | exact HB.out | apply below_alloc | apply pw_below_drewN | apply below_drew1) | exact HB.out)⟩⟩
 case round =>
  clear H'
  try clear c1
  obtain ⟨x3_1, rfl, HA, HK1, HB⟩ := hrel
  cases gk with
  | zero => exact absurd HA.out (by simp [slotmeshref26_Valid.l0])
  | succ k1 =>
   have H := HA.out
   clear HA
   simp only [slotmeshref26_Valid.l0] at H
   by_cases c2 : x3_1 < (l0.length : Int)
   ·rw [if_pos c2] at H
    have c2b0 : decide (x3_1 < (l0.length : Int)) = true := decide_eq_true c2
    clear c2
    by_cases c3 : 0 ≤ x3_1
    ·rw [if_pos c3] at H
     have c3b0 : decide (0 ≤ x3_1) = true := decide_eq_true c3
     clear c3
     have HC4 := Aside0.mk H
     clear H
     have p202 : 0 ≤ (x3_1 : Int) := of_decide_eq_true (by first | (with_reducible assumption) | assumption)
     have q202 : x3_1 < (l0.length : Int) := of_decide_eq_true (by first | (with_reducible assumption) | assumption)
     obtain ⟨ad202, A202_1, c202_1, e202, hx202_0, hx202_1, hl202_1, hi202_1⟩ := at_T45 HR0.out x3_1 p202 q202
     cases e202
     replace hx202_0 := (HB.out.cell (World.block_lt_of_cell? w _ hx202_0)).trans hx202_0
     replace hx202_1 := (HB.out.cell (World.block_lt_of_cell? w _ hx202_1)).trans hx202_1
     have HR202_1 := Aside0.mk hi202_1
     have HC202_1 := Aside0.mk hl202_1
     clear hi202_1 hl202_1
     replace p202 := eq_true p202
     replace q202 := eq_true q202
     go_upto_region 5 with (first | ((with_reducible refine gate_dst (N := 4) rfl ?_); (try (refine gate_guard (by rfl) ?_; dsimp only)); refine box_event ?hg (N := 4) ?hd (cs := #[.int .i64 0, .slice none 0 0]) (t := 45) ?hr ?_; (case hd => rfl); (case hg => rfl); (case hr => first | (go_simp; done) | (go_simp; rfl)); intro gb203 hg w5 hbox hb; have n0_ := Aside0.mk (below_step (by repeat (first | (with_reducible first | exact HB.out | apply below_alloc | apply pw_below_drewN | apply below_drew1) | exact HB.out)) hb); have n1_ := Aside0.mk (hbox); have n2_ := Aside0.mk ((by rw [hg]; exact (below_size (by repeat (first | (with_reducible first | exact HB.out | apply below_alloc | apply pw_below_drewN | apply below_drew1) | exact HB.out))) : w.heap.size ≤ gb203)); have n3_ := Aside0.mk ((by rw [hg]; exact (below_size (by repeat (first | (with_reducible first | exact HB.out | apply below_alloc | apply pw_below_drewN | apply below_drew1) | exact HB.out))) : w.heap.size ≤ gb203)); clear HB; have HB := n0_; have BK203 := n1_; have GW203 := n2_; have GE203 := n3_; clear n0_ n1_ n2_ n3_; clear hb hbox hg; have hcz6_0 : w5.cell? ⟨gb203, 0, none⟩ = some (.int .i64 0) := (blk_cell BK203.out 0).trans rfl; have hcz6_1 : w5.cell? ⟨gb203, 1, none⟩ = some (.slice none 0 0) := (blk_cell BK203.out 1).trans rfl; have hfz6_0 := blk_frozen BK203.out 0; have hfz6_1 := blk_frozen BK203.out 1))
     repeat (go_quiet (first | ((with_reducible refine gate_dst (N := 4) rfl ?_); (try (refine gate_guard (by rfl) ?_; dsimp only)); refine box_event ?hg (N := 4) ?hd (cs := #[.int .i64 0, .slice none 0 0]) (t := 45) ?hr ?_; (case hd => rfl); (case hg => rfl); (case hr => first | (go_simp; done) | (go_simp; rfl)); intro gb203 hg w5 hbox hb; have n0_ := Aside0.mk (below_step (by repeat (first | (with_reducible first | exact HB.out | apply below_alloc | apply pw_below_drewN | apply below_drew1) | exact HB.out)) hb); have n1_ := Aside0.mk (hbox); have n2_ := Aside0.mk ((by rw [hg]; exact (below_size (by repeat (first | (with_reducible first | exact HB.out | apply below_alloc | apply pw_below_drewN | apply below_drew1) | exact HB.out))) : w.heap.size ≤ gb203)); have n3_ := Aside0.mk ((by rw [hg]; exact (below_size (by repeat (first | (with_reducible first | exact HB.out | apply below_alloc | apply pw_below_drewN | apply below_drew1) | exact HB.out))) : w.heap.size ≤ gb203)); clear HB; have HB := n0_; have BK203 := n1_; have GW203 := n2_; have GE203 := n3_; clear n0_ n1_ n2_ n3_; clear hb hbox hg; have hcz6_0 : w5.cell? ⟨gb203, 0, none⟩ = some (.int .i64 0) := (blk_cell BK203.out 0).trans rfl; have hcz6_1 : w5.cell? ⟨gb203, 1, none⟩ = some (.slice none 0 0) := (blk_cell BK203.out 1).trans rfl; have hfz6_0 := blk_frozen BK203.out 0; have hfz6_1 := blk_frozen BK203.out 1)); go_upto_region 5 with (first | ((with_reducible refine gate_dst (N := 4) rfl ?_); (try (refine gate_guard (by rfl) ?_; dsimp only)); refine box_event ?hg (N := 4) ?hd (cs := #[.int .i64 0, .slice none 0 0]) (t := 45) ?hr ?_; (case hd => rfl); (case hg => rfl); (case hr => first | (go_simp; done) | (go_simp; rfl)); intro gb203 hg w5 hbox hb; have n0_ := Aside0.mk (below_step (by repeat (first | (with_reducible first | exact HB.out | apply below_alloc | apply pw_below_drewN | apply below_drew1) | exact HB.out)) hb); have n1_ := Aside0.mk (hbox); have n2_ := Aside0.mk ((by rw [hg]; exact (below_size (by repeat (first | (with_reducible first | exact HB.out | apply below_alloc | apply pw_below_drewN | apply below_drew1) | exact HB.out))) : w.heap.size ≤ gb203)); have n3_ := Aside0.mk ((by rw [hg]; exact (below_size (by repeat (first | (with_reducible first | exact HB.out | apply below_alloc | apply pw_below_drewN | apply below_drew1) | exact HB.out))) : w.heap.size ≤ gb203)); clear HB; have HB := n0_; have BK203 := n1_; have GW203 := n2_; have GE203 := n3_; clear n0_ n1_ n2_ n3_; clear hb hbox hg; have hcz6_0 : w5.cell? ⟨gb203, 0, none⟩ = some (.int .i64 0) := (blk_cell BK203.out 0).trans rfl; have hcz6_1 : w5.cell? ⟨gb203, 1, none⟩ = some (.slice none 0 0) := (blk_cell BK203.out 1).trans rfl; have hfz6_0 := blk_frozen BK203.out 0; have hfz6_1 := blk_frozen BK203.out 1)))
     (try simp only [Act.put, List.setIfInBounds_toArray, List.set_cons_zero, List.set_cons_succ])
     go_cut [45] (fun v45 wc => ∃ (kq : Nat) (x45_3 : Bool), v45 = .bool x45_3 ∧ Aside0 (slotmeshref26_Valid.j1 kq l0 x3_1 x45_3 ((rd_T45 l0 x3_1).f0) ((rd_T45 l0 x3_1).f1) = some r) ∧ Aside0 (kq ≤ k1) ∧ Aside0 (wc.heap[gb203]? = some (.cells #[.int .i64 ((rd_T45 l0 x3_1).f0), (.slice A202_1 ((rd_T45 l0 x3_1).f1).length c202_1)] 45 (0, 0))) ∧ Aside0 (Below w.heap.size w wc))
     case first =>
      have H := HC4.out
      clear HC4
      by_cases c7 : ((rd_T45 l0 x3_1).f0) < 0
      ·rw [if_pos c7] at H
       have c7b0 : decide (((rd_T45 l0 x3_1).f0) < 0) = true := decide_eq_true c7
       clear c7
       (first | rw [c7b0] | (simp only [i64_w, i32_w]; rw [c7b0]) | skip)
       have H' := Aside0.mk H
       clear H
       have hcz8_0 : w5.cell? ⟨gb203, 0, none⟩ = some (.int .i64 0) := (blk_cell BK203.out 0).trans rfl
       have hcz8_1 : w5.cell? ⟨gb203, 1, none⟩ = some (.slice none 0 0) := (blk_cell BK203.out 1).trans rfl
       have hfz8_0 := blk_frozen BK203.out 0
       have hfz8_1 := blk_frozen BK203.out 1
       go_wp2
       repeat (go_quiet (fail); try go_wp2)
       go_meet
       case rel => exact ⟨_, (true), (by first | rfl | (simp; done) | (simp [*]; done)), H', ⟨by have := HK1.out; first | omega | exact Nat.le_refl _⟩, ⟨by (with_reducible repeat (first | refine blk_drewN ?_ _ | refine blk_drew ?_ | refine blk_alloc ?_ _)); refine blk_put (cs := #[.int .i64 ((rd_T45 l0 x3_1).f0), .slice none 0 0]) ?_ 1 _ rfl; (with_reducible repeat (first | refine blk_drewN ?_ _ | refine blk_drew ?_ | refine blk_alloc ?_ _)); refine blk_put (cs := #[.int .i64 0, .slice none 0 0]) ?_ 0 _ rfl; (with_reducible repeat (first | refine blk_drewN ?_ _ | refine blk_drew ?_ | refine blk_alloc ?_ _)); exact BK203.out⟩, ⟨by repeat (first | (with_reducible first | exact HB.out | apply below_alloc | apply pw_below_drewN | apply below_drew1 | refine below_set ?_ GE203.out) | exact HB.out)⟩⟩
      ·rw [if_neg c7] at H
       have c7b0 : decide (((rd_T45 l0 x3_1).f0) < 0) = false := decide_eq_false c7
       clear c7
       (first | rw [c7b0] | (simp only [i64_w, i32_w]; rw [c7b0]) | skip)
       by_cases c9 : ((rd_T45 l0 x3_1).f0) ≥ 60
       ·rw [if_pos c9] at H
        have c9b0 : decide (60 ≤ ((rd_T45 l0 x3_1).f0)) = true := decide_eq_true c9
        clear c9
        have H' := Aside0.mk H
        clear H
        have hcz10_0 : w5.cell? ⟨gb203, 0, none⟩ = some (.int .i64 0) := (blk_cell BK203.out 0).trans rfl
        have hcz10_1 : w5.cell? ⟨gb203, 1, none⟩ = some (.slice none 0 0) := (blk_cell BK203.out 1).trans rfl
        have hfz10_0 := blk_frozen BK203.out 0
        have hfz10_1 := blk_frozen BK203.out 1
        go_wp2
        repeat (go_quiet (fail); try go_wp2)
        go_meet
        case rel => exact ⟨_, (true), (by first | rfl | (simp; done) | (simp [*]; done)), H', ⟨by have := HK1.out; first | omega | exact Nat.le_refl _⟩, ⟨by (with_reducible repeat (first | refine blk_drewN ?_ _ | refine blk_drew ?_ | refine blk_alloc ?_ _)); refine blk_put (cs := #[.int .i64 ((rd_T45 l0 x3_1).f0), .slice none 0 0]) ?_ 1 _ rfl; (with_reducible repeat (first | refine blk_drewN ?_ _ | refine blk_drew ?_ | refine blk_alloc ?_ _)); refine blk_put (cs := #[.int .i64 0, .slice none 0 0]) ?_ 0 _ rfl; (with_reducible repeat (first | refine blk_drewN ?_ _ | refine blk_drew ?_ | refine blk_alloc ?_ _)); exact BK203.out⟩, ⟨by repeat (first | (with_reducible first | exact HB.out | apply below_alloc | apply pw_below_drewN | apply below_drew1 | refine below_set ?_ GE203.out) | exact HB.out)⟩⟩
       ·rw [if_neg c9] at H
        have c9b0 : decide (60 ≤ ((rd_T45 l0 x3_1).f0)) = false := decide_eq_false c9
        clear c9
        by_cases c11 : x3_1 > 0
        ·rw [if_pos c11] at H
         have c11b0 : decide (0 < x3_1) = true := decide_eq_true c11
         clear c11
         obtain ⟨ji12, hji12⟩ : ∃ j_ : Int, (wrap64 (x3_1 - 1)) = j_ := ⟨_, rfl⟩
         replace H : (if 0 ≤ (ji12) then (if (ji12) < (l0.length : Int) then (if ((rd_T45 l0 x3_1).f0) ≤ ((rd_T45 l0 (ji12)).f0) then (slotmeshref26_Valid.j1 k1 l0 x3_1 true ((rd_T45 l0 x3_1).f0) ((rd_T45 l0 x3_1).f1)) else (slotmeshref26_Valid.j1 k1 l0 x3_1 ((((rd_T45 l0 x3_1).f1).length : Int) == 0) ((rd_T45 l0 x3_1).f0) ((rd_T45 l0 x3_1).f1))) else (none)) else (none)) = some r := by first | (rw [hji12] at H; exact H) | (simp only [hji12] at H ⊢; exact H)
         have hji12w : (IntKind.i64.wrap (x3_1 - 1)) = ji12 := (i64_w _).trans hji12
         by_cases c13 : 0 ≤ (ji12)
         ·rw [if_pos c13] at H
          have c13b0 : decide (0 ≤ (ji12)) = true := decide_eq_true c13
          clear c13
          by_cases c14 : (ji12) < (l0.length : Int)
          ·rw [if_pos c14] at H
           have c14b0 : decide ((ji12) < (l0.length : Int)) = true := decide_eq_true c14
           clear c14
           by_cases c15 : ((rd_T45 l0 x3_1).f0) ≤ ((rd_T45 l0 (ji12)).f0)
           ·rw [if_pos c15] at H
            have c15b0 : decide (((rd_T45 l0 x3_1).f0) ≤ ((rd_T45 l0 (ji12)).f0)) = true := decide_eq_true c15
            clear c15
            have H' := Aside0.mk H
            clear H
            have hcz16_0 : w5.cell? ⟨gb203, 0, none⟩ = some (.int .i64 0) := (blk_cell BK203.out 0).trans rfl
            have hcz16_1 : w5.cell? ⟨gb203, 1, none⟩ = some (.slice none 0 0) := (blk_cell BK203.out 1).trans rfl
            have hfz16_0 := blk_frozen BK203.out 0
            have hfz16_1 := blk_frozen BK203.out 1
            have p204 : 0 ≤ ((ji12) : Int) := of_decide_eq_true (by first | (with_reducible assumption) | assumption)
            have q204 : (ji12) < (l0.length : Int) := of_decide_eq_true (by first | (with_reducible assumption) | assumption)
            obtain ⟨ad204, A204_1, c204_1, e204, hx204_0, hx204_1, hl204_1, hi204_1⟩ := at_T45 HR0.out (ji12) p204 q204
            obtain rfl : ad202 = ad204 := (by injection e204)
            have hn204_0 : ad202.block ≠ gb203 := Nat.ne_of_lt (Nat.lt_of_lt_of_le (by have := World.block_lt_of_cell? _ _ hx204_0; first | rwa [add_block] at this | exact this) GW203.out)
            have hn204_1 : ad202.block ≠ gb203 := Nat.ne_of_lt (Nat.lt_of_lt_of_le (by have := World.block_lt_of_cell? _ _ hx204_0; first | rwa [add_block] at this | exact this) GW203.out)
            replace hx204_0 := (HB.out.cell (World.block_lt_of_cell? w _ hx204_0)).trans hx204_0
            replace hx204_1 := (HB.out.cell (World.block_lt_of_cell? w _ hx204_1)).trans hx204_1
            have HR204_1 := Aside0.mk hi204_1
            have HC204_1 := Aside0.mk hl204_1
            clear hi204_1 hl204_1
            replace hx204_0 := (cell_far (p := ⟨gb203, 0, none⟩) (by first | (rw [add_block]; exact hn204_0) | (show (Addr.add _ _).block ≠ _; rw [add_block]; exact hn204_0) | exact hn204_0) (.int .i64 ((rd_T45 l0 x3_1).f0))).trans hx204_0
            replace hx204_1 := (cell_far (p := ⟨gb203, 0, none⟩) (by first | (rw [add_block]; exact hn204_0) | (show (Addr.add _ _).block ≠ _; rw [add_block]; exact hn204_0) | exact hn204_0) (.int .i64 ((rd_T45 l0 x3_1).f0))).trans hx204_1
            replace hx204_0 := (cell_far (p := ⟨gb203, 1, none⟩) (by first | (rw [add_block]; exact hn204_1) | (show (Addr.add _ _).block ≠ _; rw [add_block]; exact hn204_1) | exact hn204_1) (.slice A202_1 ((rd_T45 l0 x3_1).f1).length c202_1)).trans hx204_0
            replace hx204_1 := (cell_far (p := ⟨gb203, 1, none⟩) (by first | (rw [add_block]; exact hn204_1) | (show (Addr.add _ _).block ≠ _; rw [add_block]; exact hn204_1) | exact hn204_1) (.slice A202_1 ((rd_T45 l0 x3_1).f1).length c202_1)).trans hx204_1
            (try have hy204_0 := fun (n_ : Nat) => (show ((((w5.drewN n_).setCell ⟨gb203, 0, none⟩ (.int .i64 ((rd_T45 l0 x3_1).f0))).setCell ⟨gb203, 1, none⟩ (.slice A202_1 ((rd_T45 l0 x3_1).f1).length c202_1))).cell? _ = some _ from hx204_0))
            (try have hy204_1 := fun (n_ : Nat) => (show ((((w5.drewN n_).setCell ⟨gb203, 0, none⟩ (.int .i64 ((rd_T45 l0 x3_1).f0))).setCell ⟨gb203, 1, none⟩ (.slice A202_1 ((rd_T45 l0 x3_1).f1).length c202_1))).cell? _ = some _ from hx204_1))
            clear hn204_0
            clear hn204_1
            replace p204 := eq_true p204
            replace q204 := eq_true q204
            go_wp2
            repeat (go_quiet (fail); try go_wp2)
            go_meet
            case rel => exact ⟨_, (true), (by first | rfl | (simp; done) | (simp [*]; done)), H', ⟨by have := HK1.out; first | omega | exact Nat.le_refl _⟩, ⟨by (with_reducible repeat (first | refine blk_drewN ?_ _ | refine blk_drew ?_ | refine blk_alloc ?_ _)); refine blk_put (cs := #[.int .i64 ((rd_T45 l0 x3_1).f0), .slice none 0 0]) ?_ 1 _ rfl; (with_reducible repeat (first | refine blk_drewN ?_ _ | refine blk_drew ?_ | refine blk_alloc ?_ _)); refine blk_put (cs := #[.int .i64 0, .slice none 0 0]) ?_ 0 _ rfl; (with_reducible repeat (first | refine blk_drewN ?_ _ | refine blk_drew ?_ | refine blk_alloc ?_ _)); exact BK203.out⟩, ⟨by repeat (first | (with_reducible first | exact HB.out | apply below_alloc | apply pw_below_drewN | apply below_drew1 | refine below_set ?_ GE203.out) | exact HB.out)⟩⟩
           ·rw [if_neg c15] at H
            have c15b0 : decide (((rd_T45 l0 x3_1).f0) ≤ ((rd_T45 l0 (ji12)).f0)) = false := decide_eq_false c15
            clear c15
            have H' := Aside0.mk H
            clear H
            have hcz17_0 : w5.cell? ⟨gb203, 0, none⟩ = some (.int .i64 0) := (blk_cell BK203.out 0).trans rfl
            have hcz17_1 : w5.cell? ⟨gb203, 1, none⟩ = some (.slice none 0 0) := (blk_cell BK203.out 1).trans rfl
            have hfz17_0 := blk_frozen BK203.out 0
            have hfz17_1 := blk_frozen BK203.out 1
            have p204 : 0 ≤ ((ji12) : Int) := of_decide_eq_true (by first | (with_reducible assumption) | assumption)
            have q204 : (ji12) < (l0.length : Int) := of_decide_eq_true (by first | (with_reducible assumption) | assumption)
            obtain ⟨ad204, A204_1, c204_1, e204, hx204_0, hx204_1, hl204_1, hi204_1⟩ := at_T45 HR0.out (ji12) p204 q204
            obtain rfl : ad202 = ad204 := (by injection e204)
            have hn204_0 : ad202.block ≠ gb203 := Nat.ne_of_lt (Nat.lt_of_lt_of_le (by have := World.block_lt_of_cell? _ _ hx204_0; first | rwa [add_block] at this | exact this) GW203.out)
            have hn204_1 : ad202.block ≠ gb203 := Nat.ne_of_lt (Nat.lt_of_lt_of_le (by have := World.block_lt_of_cell? _ _ hx204_0; first | rwa [add_block] at this | exact this) GW203.out)
            replace hx204_0 := (HB.out.cell (World.block_lt_of_cell? w _ hx204_0)).trans hx204_0
            replace hx204_1 := (HB.out.cell (World.block_lt_of_cell? w _ hx204_1)).trans hx204_1
            have HR204_1 := Aside0.mk hi204_1
            have HC204_1 := Aside0.mk hl204_1
            clear hi204_1 hl204_1
            replace hx204_0 := (cell_far (p := ⟨gb203, 0, none⟩) (by first | (rw [add_block]; exact hn204_0) | (show (Addr.add _ _).block ≠ _; rw [add_block]; exact hn204_0) | exact hn204_0) (.int .i64 ((rd_T45 l0 x3_1).f0))).trans hx204_0
            replace hx204_1 := (cell_far (p := ⟨gb203, 0, none⟩) (by first | (rw [add_block]; exact hn204_0) | (show (Addr.add _ _).block ≠ _; rw [add_block]; exact hn204_0) | exact hn204_0) (.int .i64 ((rd_T45 l0 x3_1).f0))).trans hx204_1
            replace hx204_0 := (cell_far (p := ⟨gb203, 1, none⟩) (by first | (rw [add_block]; exact hn204_1) | (show (Addr.add _ _).block ≠ _; rw [add_block]; exact hn204_1) | exact hn204_1) (.slice A202_1 ((rd_T45 l0 x3_1).f1).length c202_1)).trans hx204_0
            replace hx204_1 := (cell_far (p := ⟨gb203, 1, none⟩) (by first | (rw [add_block]; exact hn204_1) | (show (Addr.add _ _).block ≠ _; rw [add_block]; exact hn204_1) | exact hn204_1) (.slice A202_1 ((rd_T45 l0 x3_1).f1).length c202_1)).trans hx204_1
            (try have hy204_0 := fun (n_ : Nat) => (show ((((w5.drewN n_).setCell ⟨gb203, 0, none⟩ (.int .i64 ((rd_T45 l0 x3_1).f0))).setCell ⟨gb203, 1, none⟩ (.slice A202_1 ((rd_T45 l0 x3_1).f1).length c202_1))).cell? _ = some _ from hx204_0))
            (try have hy204_1 := fun (n_ : Nat) => (show ((((w5.drewN n_).setCell ⟨gb203, 0, none⟩ (.int .i64 ((rd_T45 l0 x3_1).f0))).setCell ⟨gb203, 1, none⟩ (.slice A202_1 ((rd_T45 l0 x3_1).f1).length c202_1))).cell? _ = some _ from hx204_1))
            clear hn204_0
            clear hn204_1
            replace p204 := eq_true p204
            replace q204 := eq_true q204
            go_wp2
            repeat (go_quiet (fail); try go_wp2)
            go_meet
            case rel => exact ⟨_, (((((rd_T45 l0 x3_1).f1).length : Int) == 0)), (by first | rfl | (simp; done) | (simp [*]; done)), H', ⟨by have := HK1.out; first | omega | exact Nat.le_refl _⟩, ⟨by (with_reducible repeat (first | refine blk_drewN ?_ _ | refine blk_drew ?_ | refine blk_alloc ?_ _)); refine blk_put (cs := #[.int .i64 ((rd_T45 l0 x3_1).f0), .slice none 0 0]) ?_ 1 _ rfl; (with_reducible repeat (first | refine blk_drewN ?_ _ | refine blk_drew ?_ | refine blk_alloc ?_ _)); refine blk_put (cs := #[.int .i64 0, .slice none 0 0]) ?_ 0 _ rfl; (with_reducible repeat (first | refine blk_drewN ?_ _ | refine blk_drew ?_ | refine blk_alloc ?_ _)); exact BK203.out⟩, ⟨by repeat (first | (with_reducible first | exact HB.out | apply below_alloc | apply pw_below_drewN | apply below_drew1 | refine below_set ?_ GE203.out) | exact HB.out)⟩⟩
          ·rw [if_neg c14] at H
           exact absurd H (by simp)
         ·rw [if_neg c13] at H
          exact absurd H (by simp)
        ·rw [if_neg c11] at H
         have c11b0 : decide (0 < x3_1) = false := decide_eq_false c11
         clear c11
         have H' := Aside0.mk H
         clear H
         have hcz18_0 : w5.cell? ⟨gb203, 0, none⟩ = some (.int .i64 0) := (blk_cell BK203.out 0).trans rfl
         have hcz18_1 : w5.cell? ⟨gb203, 1, none⟩ = some (.slice none 0 0) := (blk_cell BK203.out 1).trans rfl
         have hfz18_0 := blk_frozen BK203.out 0
         have hfz18_1 := blk_frozen BK203.out 1
         go_wp2
         repeat (go_quiet (fail); try go_wp2)
         go_meet
         case rel => exact ⟨_, (((((rd_T45 l0 x3_1).f1).length : Int) == 0)), (by first | rfl | (simp; done) | (simp [*]; done)), H', ⟨by have := HK1.out; first | omega | exact Nat.le_refl _⟩, ⟨by (with_reducible repeat (first | refine blk_drewN ?_ _ | refine blk_drew ?_ | refine blk_alloc ?_ _)); refine blk_put (cs := #[.int .i64 ((rd_T45 l0 x3_1).f0), .slice none 0 0]) ?_ 1 _ rfl; (with_reducible repeat (first | refine blk_drewN ?_ _ | refine blk_drew ?_ | refine blk_alloc ?_ _)); refine blk_put (cs := #[.int .i64 0, .slice none 0 0]) ?_ 0 _ rfl; (with_reducible repeat (first | refine blk_drewN ?_ _ | refine blk_drew ?_ | refine blk_alloc ?_ _)); exact BK203.out⟩, ⟨by repeat (first | (with_reducible first | exact HB.out | apply below_alloc | apply pw_below_drewN | apply below_drew1 | refine below_set ?_ GE203.out) | exact HB.out)⟩⟩
     case rest =>
      clear HC4
      try clear c1
      try clear c2
      try clear c2b0
      try clear p2
      try clear q2
      try clear hx2
      try clear c3
      try clear c3b0
      try clear p6
      try clear c7
      try clear c7b0
      try clear c9
      try clear c9b0
      try clear c11
      try clear c11b0
      try clear c13
      try clear c13b0
      try clear c14
      try clear c14b0
      try clear c15
      try clear c15b0
      try clear hcz10_0
      try clear hcz10_1
      try clear hcz16_0
      try clear hcz16_1
      try clear hcz17_0
      try clear hcz17_1
      try clear hcz18_0
      try clear hcz18_1
      try clear hcz6_0
      try clear hcz6_1
      try clear hcz8_0
      try clear hcz8_1
      try clear hfz10_0
      try clear hfz10_1
      try clear hfz16_0
      try clear hfz16_1
      try clear hfz17_0
      try clear hfz17_1
      try clear hfz18_0
      try clear hfz18_1
      try clear hfz6_0
      try clear hfz6_1
      try clear hfz8_0
      try clear hfz8_1
      try clear hx202_0
      try clear hx202_1
      try clear hx204_0
      try clear hx204_1
      try clear p202
      try clear p204
      try clear q202
      try clear q204
      obtain ⟨kq, x45_3, rfl, HA, HJ3, BK203, HB⟩ := hcut
      cases kq with
      | zero => exact absurd HA.out (by simp [slotmeshref26_Valid.j1])
      | succ kj3 =>
       have H := HA.out
       clear HA
       simp only [slotmeshref26_Valid.j1] at H
       by_cases c19 : x45_3 = true
       ·subst c19
        have H1 : (some false) = some r := by rw [if_pos rfl] at H; exact H
        clear H
        have H := H1
        clear H1
        obtain rfl := Option.some.inj H
        go_wp2
        repeat (go_quiet (fail); try go_wp2)
        go_ret
        exact ⟨by first | rfl | (simp [errW_none, errW_some] <;> rfl) | (simp [*, errW_none, errW_some] <;> rfl), by repeat (first | (with_reducible first | exact HB.out | apply below_alloc | apply pw_below_drewN | apply below_drew1 | refine below_set ?_ GE203.out) | exact HB.out)⟩
       ·replace c19 := Bool.eq_false_iff.mpr c19
        subst c19
        have H1 : (slotmeshref26_Valid.l1 kj3 l0 x3_1 0 ((rd_T45 l0 x3_1).f0) ((rd_T45 l0 x3_1).f1)) = some r := by rw [if_neg (show ¬ (false = true) by decide)] at H; exact H
        clear H
        have H := H1
        clear H1
        have H' := Aside0.mk H
        clear H
        go_wp2
        repeat (go_quiet (fail); try go_wp2)
        go_loopg [5] kj3 (fun kq v5 w' => ∃ (x5_3 : Int), v5 = .int .i64 x5_3 ∧ Aside0 (slotmeshref26_Valid.l1 kq l0 x3_1 x5_3 ((rd_T45 l0 x3_1).f0) ((rd_T45 l0 x3_1).f1) = some r) ∧ Aside0 (kq ≤ kj3) ∧ Aside0 (w'.heap[gb203]? = some (.cells #[.int .i64 ((rd_T45 l0 x3_1).f0), (.slice A202_1 ((rd_T45 l0 x3_1).f1).length c202_1)] 45 (0, 0))) ∧ Aside0 (Below w.heap.size w w'))
        case atStart => exact ⟨(0), (by first | rfl | (simp; done) | (simp [*]; done)), H', ⟨Nat.le_refl _⟩, ⟨by (with_reducible repeat (first | refine blk_drewN ?_ _ | refine blk_drew ?_ | refine blk_alloc ?_ _)); exact BK203.out⟩, ⟨by repeat (first | (with_reducible first | exact HB.out | apply below_alloc | apply pw_below_drewN | apply below_drew1 | refine below_set ?_ GE203.out) | exact HB.out)⟩⟩
        case round =>
         clear H'
         try clear c1
         try clear c2
         try clear c2b0
         try clear p2
         try clear q2
         try clear hx2
         try clear c3
         try clear c3b0
         try clear p6
         try clear c7
         try clear c7b0
         try clear c9
         try clear c9b0
         try clear c11
         try clear c11b0
         try clear c13
         try clear c13b0
         try clear c14
         try clear c14b0
         try clear c15
         try clear c15b0
         try clear c19
         try clear hcz10_0
         try clear hcz10_1
         try clear hcz16_0
         try clear hcz16_1
         try clear hcz17_0
         try clear hcz17_1
         try clear hcz18_0
         try clear hcz18_1
         try clear hcz6_0
         try clear hcz6_1
         try clear hcz8_0
         try clear hcz8_1
         try clear hfz10_0
         try clear hfz10_1
         try clear hfz16_0
         try clear hfz16_1
         try clear hfz17_0
         try clear hfz17_1
         try clear hfz18_0
         try clear hfz18_1
         try clear hfz6_0
         try clear hfz6_1
         try clear hfz8_0
         try clear hfz8_1
         try clear hx202_0
         try clear hx202_1
         try clear hx204_0
         try clear hx204_1
         try clear p2
         try clear p202
         try clear p204
         try clear p6
         try clear q2
         try clear q202
         try clear q204
         obtain ⟨x5_3, rfl, HA, HK3, BK203, HB⟩ := hrel
         cases gk with
         | zero => exact absurd HA.out (by simp [slotmeshref26_Valid.l1])
         | succ k3 =>
          have H := HA.out
          clear HA
          simp only [slotmeshref26_Valid.l1] at H
          by_cases c20 : x5_3 < (((rd_T45 l0 x3_1).f1).length : Int)
          ·rw [if_pos c20] at H
           have c20b0 : decide (x5_3 < (((rd_T45 l0 x3_1).f1).length : Int)) = true := decide_eq_true c20
           clear c20
           by_cases c21 : 0 ≤ x5_3
           ·rw [if_pos c21] at H
            have c21b0 : decide (0 ≤ x5_3) = true := decide_eq_true c21
            clear c21
            by_cases c22 : ((rd_T47 ((rd_T45 l0 x3_1).f1) x5_3).f0) < 1
            ·rw [if_pos c22] at H
             have c22b0 : decide (((rd_T47 ((rd_T45 l0 x3_1).f1) x5_3).f0) < 1) = true := decide_eq_true c22
             clear c22
             obtain rfl := Option.some.inj H
             have hcz23_0 : wr.cell? ⟨gb203, 0, none⟩ = some (.int .i64 ((rd_T45 l0 x3_1).f0)) := (blk_cell BK203.out 0).trans rfl
             have hcz23_1 : wr.cell? ⟨gb203, 1, none⟩ = some (.slice A202_1 ((rd_T45 l0 x3_1).f1).length c202_1) := (blk_cell BK203.out 1).trans rfl
             have hfz23_0 := blk_frozen BK203.out 0
             have hfz23_1 := blk_frozen BK203.out 1
             have p205 : 0 ≤ (x5_3 : Int) := of_decide_eq_true (by first | (with_reducible assumption) | assumption)
             have q205 : x5_3 < (((rd_T45 l0 x3_1).f1).length : Int) := of_decide_eq_true (by first | (with_reducible assumption) | assumption)
             obtain ⟨ad205, e205, hx205_0, hx205_1⟩ := at_T47 HR202_1.out x5_3 p205 q205
             cases e205
             replace hx205_0 := (HB.out.cell (World.block_lt_of_cell? w _ hx205_0)).trans hx205_0
             replace hx205_1 := (HB.out.cell (World.block_lt_of_cell? w _ hx205_1)).trans hx205_1
             replace p205 := eq_true p205
             replace q205 := eq_true q205
             go_wp2_with (first | ((with_reducible refine gate_dst (N := 6) rfl ?_); (try (refine gate_guard (by rfl) ?_; dsimp only)); refine box_event ?hg (N := 6) ?hd (cs := #[.int .i64 0, .int .i64 0]) (t := 47) ?hr ?_; (case hd => rfl); (case hg => rfl); (case hr => first | (go_simp; done) | (go_simp; rfl)); intro gb206 hg w24 hbox hb; have n0_ := Aside0.mk (blk_below (g := gb203) (o := .cells #[.int .i64 ((rd_T45 l0 x3_1).f0), .slice (some ad205) ((rd_T45 l0 x3_1).f1).length c202_1] 45 (0, 0)) (by (with_reducible repeat (first | refine blk_drewN ?_ _ | refine blk_drew ?_ | refine blk_alloc ?_ _)); exact BK203.out) hb); have n1_ := Aside0.mk (below_step (by repeat (first | (with_reducible first | exact HB.out | apply below_alloc | apply pw_below_drewN | apply below_drew1 | refine below_set ?_ GE203.out) | exact HB.out)) hb); have n2_ := Aside0.mk (hbox); have n3_ := Aside0.mk ((by rw [hg]; exact (below_size (by repeat (first | (with_reducible first | exact HB.out | apply below_alloc | apply pw_below_drewN | apply below_drew1 | refine below_set ?_ GE203.out) | exact HB.out))) : w.heap.size ≤ gb206)); have n4_ := Aside0.mk ((by rw [hg]; exact (below_size (by repeat (first | (with_reducible first | exact HB.out | apply below_alloc | apply pw_below_drewN | apply below_drew1 | refine below_set ?_ GE203.out) | exact HB.out))) : w.heap.size ≤ gb206)); have n5_ := Aside0.mk ((by rw [hg]; exact Nat.ne_of_lt (blk_lt (g := gb203) (o := .cells #[.int .i64 ((rd_T45 l0 x3_1).f0), .slice (some ad205) ((rd_T45 l0 x3_1).f1).length c202_1] 45 (0, 0)) (by (with_reducible repeat (first | refine blk_drewN ?_ _ | refine blk_drew ?_ | refine blk_alloc ?_ _)); exact BK203.out)) : gb203 ≠ gb206)); have n6_ := Aside0.mk ((by rw [hg]; exact Nat.ne_of_gt (blk_lt (g := gb203) (o := .cells #[.int .i64 ((rd_T45 l0 x3_1).f0), .slice (some ad205) ((rd_T45 l0 x3_1).f1).length c202_1] 45 (0, 0)) (by (with_reducible repeat (first | refine blk_drewN ?_ _ | refine blk_drew ?_ | refine blk_alloc ?_ _)); exact BK203.out)) : gb206 ≠ gb203)); clear BK203; clear HB; have BK203 := n0_; have HB := n1_; have BK206 := n2_; have GW206 := n3_; have GE206 := n4_; have NB203_206 := n5_; have NB206_203 := n6_; clear n0_ n1_ n2_ n3_ n4_ n5_ n6_; clear hb hbox hg; have hnb25 := NB206_203.out; have hnc25 := NB203_206.out; have hcz26_0 : w24.cell? ⟨gb206, 0, none⟩ = some (.int .i64 0) := (blk_cell BK206.out 0).trans rfl; have hcz26_1 : w24.cell? ⟨gb206, 1, none⟩ = some (.int .i64 0) := (blk_cell BK206.out 1).trans rfl; have hfz26_0 := blk_frozen BK206.out 0; have hfz26_1 := blk_frozen BK206.out 1))
             repeat (go_quiet (first | ((with_reducible refine gate_dst (N := 6) rfl ?_); (try (refine gate_guard (by rfl) ?_; dsimp only)); refine box_event ?hg (N := 6) ?hd (cs := #[.int .i64 0, .int .i64 0]) (t := 47) ?hr ?_; (case hd => rfl); (case hg => rfl); (case hr => first | (go_simp; done) | (go_simp; rfl)); intro gb206 hg w24 hbox hb; have n0_ := Aside0.mk (blk_below (g := gb203) (o := .cells #[.int .i64 ((rd_T45 l0 x3_1).f0), .slice (some ad205) ((rd_T45 l0 x3_1).f1).length c202_1] 45 (0, 0)) (by (with_reducible repeat (first | refine blk_drewN ?_ _ | refine blk_drew ?_ | refine blk_alloc ?_ _)); exact BK203.out) hb); have n1_ := Aside0.mk (below_step (by repeat (first | (with_reducible first | exact HB.out | apply below_alloc | apply pw_below_drewN | apply below_drew1 | refine below_set ?_ GE203.out) | exact HB.out)) hb); have n2_ := Aside0.mk (hbox); have n3_ := Aside0.mk ((by rw [hg]; exact (below_size (by repeat (first | (with_reducible first | exact HB.out | apply below_alloc | apply pw_below_drewN | apply below_drew1 | refine below_set ?_ GE203.out) | exact HB.out))) : w.heap.size ≤ gb206)); have n4_ := Aside0.mk ((by rw [hg]; exact (below_size (by repeat (first | (with_reducible first | exact HB.out | apply below_alloc | apply pw_below_drewN | apply below_drew1 | refine below_set ?_ GE203.out) | exact HB.out))) : w.heap.size ≤ gb206)); have n5_ := Aside0.mk ((by rw [hg]; exact Nat.ne_of_lt (blk_lt (g := gb203) (o := .cells #[.int .i64 ((rd_T45 l0 x3_1).f0), .slice (some ad205) ((rd_T45 l0 x3_1).f1).length c202_1] 45 (0, 0)) (by (with_reducible repeat (first | refine blk_drewN ?_ _ | refine blk_drew ?_ | refine blk_alloc ?_ _)); exact BK203.out)) : gb203 ≠ gb206)); have n6_ := Aside0.mk ((by rw [hg]; exact Nat.ne_of_gt (blk_lt (g := gb203) (o := .cells #[.int .i64 ((rd_T45 l0 x3_1).f0), .slice (some ad205) ((rd_T45 l0 x3_1).f1).length c202_1] 45 (0, 0)) (by (with_reducible repeat (first | refine blk_drewN ?_ _ | refine blk_drew ?_ | refine blk_alloc ?_ _)); exact BK203.out)) : gb206 ≠ gb203)); clear BK203; clear HB; have BK203 := n0_; have HB := n1_; have BK206 := n2_; have GW206 := n3_; have GE206 := n4_; have NB203_206 := n5_; have NB206_203 := n6_; clear n0_ n1_ n2_ n3_ n4_ n5_ n6_; clear hb hbox hg; have hnb25 := NB206_203.out; have hnc25 := NB203_206.out; have hcz26_0 : w24.cell? ⟨gb206, 0, none⟩ = some (.int .i64 0) := (blk_cell BK206.out 0).trans rfl; have hcz26_1 : w24.cell? ⟨gb206, 1, none⟩ = some (.int .i64 0) := (blk_cell BK206.out 1).trans rfl; have hfz26_0 := blk_frozen BK206.out 0; have hfz26_1 := blk_frozen BK206.out 1)); try go_wp2_with (first | ((with_reducible refine gate_dst (N := 6) rfl ?_); (try (refine gate_guard (by rfl) ?_; dsimp only)); refine box_event ?hg (N := 6) ?hd (cs := #[.int .i64 0, .int .i64 0]) (t := 47) ?hr ?_; (case hd => rfl); (case hg => rfl); (case hr => first | (go_simp; done) | (go_simp; rfl)); intro gb206 hg w24 hbox hb; have n0_ := Aside0.mk (blk_below (g := gb203) (o := .cells #[.int .i64 ((rd_T45 l0 x3_1).f0), .slice (some ad205) ((rd_T45 l0 x3_1).f1).length c202_1] 45 (0, 0)) (by (with_reducible repeat (first | refine blk_drewN ?_ _ | refine blk_drew ?_ | refine blk_alloc ?_ _)); exact BK203.out) hb); have n1_ := Aside0.mk (below_step (by repeat (first | (with_reducible first | exact HB.out | apply below_alloc | apply pw_below_drewN | apply below_drew1 | refine below_set ?_ GE203.out) | exact HB.out)) hb); have n2_ := Aside0.mk (hbox); have n3_ := Aside0.mk ((by rw [hg]; exact (below_size (by repeat (first | (with_reducible first | exact HB.out | apply below_alloc | apply pw_below_drewN | apply below_drew1 | refine below_set ?_ GE203.out) | exact HB.out))) : w.heap.size ≤ gb206)); have n4_ := Aside0.mk ((by rw [hg]; exact (below_size (by repeat (first | (with_reducible first | exact HB.out | apply below_alloc | apply pw_below_drewN | apply below_drew1 | refine below_set ?_ GE203.out) | exact HB.out))) : w.heap.size ≤ gb206)); have n5_ := Aside0.mk ((by rw [hg]; exact Nat.ne_of_lt (blk_lt (g := gb203) (o := .cells #[.int .i64 ((rd_T45 l0 x3_1).f0), .slice (some ad205) ((rd_T45 l0 x3_1).f1).length c202_1] 45 (0, 0)) (by (with_reducible repeat (first | refine blk_drewN ?_ _ | refine blk_drew ?_ | refine blk_alloc ?_ _)); exact BK203.out)) : gb203 ≠ gb206)); have n6_ := Aside0.mk ((by rw [hg]; exact Nat.ne_of_gt (blk_lt (g := gb203) (o := .cells #[.int .i64 ((rd_T45 l0 x3_1).f0), .slice (some ad205) ((rd_T45 l0 x3_1).f1).length c202_1] 45 (0, 0)) (by (with_reducible repeat (first | refine blk_drewN ?_ _ | refine blk_drew ?_ | refine blk_alloc ?_ _)); exact BK203.out)) : gb206 ≠ gb203)); clear BK203; clear HB; have BK203 := n0_; have HB := n1_; have BK206 := n2_; have GW206 := n3_; have GE206 := n4_; have NB203_206 := n5_; have NB206_203 := n6_; clear n0_ n1_ n2_ n3_ n4_ n5_ n6_; clear hb hbox hg; have hnb25 := NB206_203.out; have hnc25 := NB203_206.out; have hcz26_0 : w24.cell? ⟨gb206, 0, none⟩ = some (.int .i64 0) := (blk_cell BK206.out 0).trans rfl; have hcz26_1 : w24.cell? ⟨gb206, 1, none⟩ = some (.int .i64 0) := (blk_cell BK206.out 1).trans rfl; have hfz26_0 := blk_frozen BK206.out 0; have hfz26_1 := blk_frozen BK206.out 1)))
             go_ret
             exact ⟨by first | rfl | (simp [errW_none, errW_some] <;> rfl) | (simp [*, errW_none, errW_some] <;> rfl), by repeat (first | (with_reducible first | exact HB.out | apply below_alloc | apply pw_below_drewN | apply below_drew1 | refine below_set ?_ GE203.out | refine below_set ?_ GE206.out) | exact HB.out)⟩
            ·rw [if_neg c22] at H
             have c22b0 : decide (((rd_T47 ((rd_T45 l0 x3_1).f1) x5_3).f0) < 1) = false := decide_eq_false c22
             clear c22
             by_cases c27 : ((rd_T47 ((rd_T45 l0 x3_1).f1) x5_3).f0) > ((rd_T47 ((rd_T45 l0 x3_1).f1) x5_3).f1)
             ·rw [if_pos c27] at H
              have c27b0 : decide (((rd_T47 ((rd_T45 l0 x3_1).f1) x5_3).f1) < ((rd_T47 ((rd_T45 l0 x3_1).f1) x5_3).f0)) = true := decide_eq_true c27
              clear c27
              obtain rfl := Option.some.inj H
              have hcz28_0 : wr.cell? ⟨gb203, 0, none⟩ = some (.int .i64 ((rd_T45 l0 x3_1).f0)) := (blk_cell BK203.out 0).trans rfl
              have hcz28_1 : wr.cell? ⟨gb203, 1, none⟩ = some (.slice A202_1 ((rd_T45 l0 x3_1).f1).length c202_1) := (blk_cell BK203.out 1).trans rfl
              have hfz28_0 := blk_frozen BK203.out 0
              have hfz28_1 := blk_frozen BK203.out 1
              have p205 : 0 ≤ (x5_3 : Int) := of_decide_eq_true (by first | (with_reducible assumption) | assumption)
              have q205 : x5_3 < (((rd_T45 l0 x3_1).f1).length : Int) := of_decide_eq_true (by first | (with_reducible assumption) | assumption)
              obtain ⟨ad205, e205, hx205_0, hx205_1⟩ := at_T47 HR202_1.out x5_3 p205 q205
              cases e205
              replace hx205_0 := (HB.out.cell (World.block_lt_of_cell? w _ hx205_0)).trans hx205_0
              replace hx205_1 := (HB.out.cell (World.block_lt_of_cell? w _ hx205_1)).trans hx205_1
              replace p205 := eq_true p205
              replace q205 := eq_true q205
              go_wp2_with (first | ((with_reducible refine gate_dst (N := 6) rfl ?_); (try (refine gate_guard (by rfl) ?_; dsimp only)); refine box_event ?hg (N := 6) ?hd (cs := #[.int .i64 0, .int .i64 0]) (t := 47) ?hr ?_; (case hd => rfl); (case hg => rfl); (case hr => first | (go_simp; done) | (go_simp; rfl)); intro gb206 hg w29 hbox hb; have n0_ := Aside0.mk (blk_below (g := gb203) (o := .cells #[.int .i64 ((rd_T45 l0 x3_1).f0), .slice (some ad205) ((rd_T45 l0 x3_1).f1).length c202_1] 45 (0, 0)) (by (with_reducible repeat (first | refine blk_drewN ?_ _ | refine blk_drew ?_ | refine blk_alloc ?_ _)); exact BK203.out) hb); have n1_ := Aside0.mk (below_step (by repeat (first | (with_reducible first | exact HB.out | apply below_alloc | apply pw_below_drewN | apply below_drew1 | refine below_set ?_ GE203.out) | exact HB.out)) hb); have n2_ := Aside0.mk (hbox); have n3_ := Aside0.mk ((by rw [hg]; exact (below_size (by repeat (first | (with_reducible first | exact HB.out | apply below_alloc | apply pw_below_drewN | apply below_drew1 | refine below_set ?_ GE203.out) | exact HB.out))) : w.heap.size ≤ gb206)); have n4_ := Aside0.mk ((by rw [hg]; exact (below_size (by repeat (first | (with_reducible first | exact HB.out | apply below_alloc | apply pw_below_drewN | apply below_drew1 | refine below_set ?_ GE203.out) | exact HB.out))) : w.heap.size ≤ gb206)); have n5_ := Aside0.mk ((by rw [hg]; exact Nat.ne_of_lt (blk_lt (g := gb203) (o := .cells #[.int .i64 ((rd_T45 l0 x3_1).f0), .slice (some ad205) ((rd_T45 l0 x3_1).f1).length c202_1] 45 (0, 0)) (by (with_reducible repeat (first | refine blk_drewN ?_ _ | refine blk_drew ?_ | refine blk_alloc ?_ _)); exact BK203.out)) : gb203 ≠ gb206)); have n6_ := Aside0.mk ((by rw [hg]; exact Nat.ne_of_gt (blk_lt (g := gb203) (o := .cells #[.int .i64 ((rd_T45 l0 x3_1).f0), .slice (some ad205) ((rd_T45 l0 x3_1).f1).length c202_1] 45 (0, 0)) (by (with_reducible repeat (first | refine blk_drewN ?_ _ | refine blk_drew ?_ | refine blk_alloc ?_ _)); exact BK203.out)) : gb206 ≠ gb203)); clear BK203; clear HB; have BK203 := n0_; have HB := n1_; have BK206 := n2_; have GW206 := n3_; have GE206 := n4_; have NB203_206 := n5_; have NB206_203 := n6_; clear n0_ n1_ n2_ n3_ n4_ n5_ n6_; clear hb hbox hg; have hnb30 := NB206_203.out; have hnc30 := NB203_206.out; have hcz31_0 : w29.cell? ⟨gb206, 0, none⟩ = some (.int .i64 0) := (blk_cell BK206.out 0).trans rfl; have hcz31_1 : w29.cell? ⟨gb206, 1, none⟩ = some (.int .i64 0) := (blk_cell BK206.out 1).trans rfl; have hfz31_0 := blk_frozen BK206.out 0; have hfz31_1 := blk_frozen BK206.out 1))
              repeat (go_quiet (first | ((with_reducible refine gate_dst (N := 6) rfl ?_); (try (refine gate_guard (by rfl) ?_; dsimp only)); refine box_event ?hg (N := 6) ?hd (cs := #[.int .i64 0, .int .i64 0]) (t := 47) ?hr ?_; (case hd => rfl); (case hg => rfl); (case hr => first | (go_simp; done) | (go_simp; rfl)); intro gb206 hg w29 hbox hb; have n0_ := Aside0.mk (blk_below (g := gb203) (o := .cells #[.int .i64 ((rd_T45 l0 x3_1).f0), .slice (some ad205) ((rd_T45 l0 x3_1).f1).length c202_1] 45 (0, 0)) (by (with_reducible repeat (first | refine blk_drewN ?_ _ | refine blk_drew ?_ | refine blk_alloc ?_ _)); exact BK203.out) hb); have n1_ := Aside0.mk (below_step (by repeat (first | (with_reducible first | exact HB.out | apply below_alloc | apply pw_below_drewN | apply below_drew1 | refine below_set ?_ GE203.out) | exact HB.out)) hb); have n2_ := Aside0.mk (hbox); have n3_ := Aside0.mk ((by rw [hg]; exact (below_size (by repeat (first | (with_reducible first | exact HB.out | apply below_alloc | apply pw_below_drewN | apply below_drew1 | refine below_set ?_ GE203.out) | exact HB.out))) : w.heap.size ≤ gb206)); have n4_ := Aside0.mk ((by rw [hg]; exact (below_size (by repeat (first | (with_reducible first | exact HB.out | apply below_alloc | apply pw_below_drewN | apply below_drew1 | refine below_set ?_ GE203.out) | exact HB.out))) : w.heap.size ≤ gb206)); have n5_ := Aside0.mk ((by rw [hg]; exact Nat.ne_of_lt (blk_lt (g := gb203) (o := .cells #[.int .i64 ((rd_T45 l0 x3_1).f0), .slice (some ad205) ((rd_T45 l0 x3_1).f1).length c202_1] 45 (0, 0)) (by (with_reducible repeat (first | refine blk_drewN ?_ _ | refine blk_drew ?_ | refine blk_alloc ?_ _)); exact BK203.out)) : gb203 ≠ gb206)); have n6_ := Aside0.mk ((by rw [hg]; exact Nat.ne_of_gt (blk_lt (g := gb203) (o := .cells #[.int .i64 ((rd_T45 l0 x3_1).f0), .slice (some ad205) ((rd_T45 l0 x3_1).f1).length c202_1] 45 (0, 0)) (by (with_reducible repeat (first | refine blk_drewN ?_ _ | refine blk_drew ?_ | refine blk_alloc ?_ _)); exact BK203.out)) : gb206 ≠ gb203)); clear BK203; clear HB; have BK203 := n0_; have HB := n1_; have BK206 := n2_; have GW206 := n3_; have GE206 := n4_; have NB203_206 := n5_; have NB206_203 := n6_; clear n0_ n1_ n2_ n3_ n4_ n5_ n6_; clear hb hbox hg; have hnb30 := NB206_203.out; have hnc30 := NB203_206.out; have hcz31_0 : w29.cell? ⟨gb206, 0, none⟩ = some (.int .i64 0) := (blk_cell BK206.out 0).trans rfl; have hcz31_1 : w29.cell? ⟨gb206, 1, none⟩ = some (.int .i64 0) := (blk_cell BK206.out 1).trans rfl; have hfz31_0 := blk_frozen BK206.out 0; have hfz31_1 := blk_frozen BK206.out 1)); try go_wp2_with (first | ((with_reducible refine gate_dst (N := 6) rfl ?_); (try (refine gate_guard (by rfl) ?_; dsimp only)); refine box_event ?hg (N := 6) ?hd (cs := #[.int .i64 0, .int .i64 0]) (t := 47) ?hr ?_; (case hd => rfl); (case hg => rfl); (case hr => first | (go_simp; done) | (go_simp; rfl)); intro gb206 hg w29 hbox hb; have n0_ := Aside0.mk (blk_below (g := gb203) (o := .cells #[.int .i64 ((rd_T45 l0 x3_1).f0), .slice (some ad205) ((rd_T45 l0 x3_1).f1).length c202_1] 45 (0, 0)) (by (with_reducible repeat (first | refine blk_drewN ?_ _ | refine blk_drew ?_ | refine blk_alloc ?_ _)); exact BK203.out) hb); have n1_ := Aside0.mk (below_step (by repeat (first | (with_reducible first | exact HB.out | apply below_alloc | apply pw_below_drewN | apply below_drew1 | refine below_set ?_ GE203.out) | exact HB.out)) hb); have n2_ := Aside0.mk (hbox); have n3_ := Aside0.mk ((by rw [hg]; exact (below_size (by repeat (first | (with_reducible first | exact HB.out | apply below_alloc | apply pw_below_drewN | apply below_drew1 | refine below_set ?_ GE203.out) | exact HB.out))) : w.heap.size ≤ gb206)); have n4_ := Aside0.mk ((by rw [hg]; exact (below_size (by repeat (first | (with_reducible first | exact HB.out | apply below_alloc | apply pw_below_drewN | apply below_drew1 | refine below_set ?_ GE203.out) | exact HB.out))) : w.heap.size ≤ gb206)); have n5_ := Aside0.mk ((by rw [hg]; exact Nat.ne_of_lt (blk_lt (g := gb203) (o := .cells #[.int .i64 ((rd_T45 l0 x3_1).f0), .slice (some ad205) ((rd_T45 l0 x3_1).f1).length c202_1] 45 (0, 0)) (by (with_reducible repeat (first | refine blk_drewN ?_ _ | refine blk_drew ?_ | refine blk_alloc ?_ _)); exact BK203.out)) : gb203 ≠ gb206)); have n6_ := Aside0.mk ((by rw [hg]; exact Nat.ne_of_gt (blk_lt (g := gb203) (o := .cells #[.int .i64 ((rd_T45 l0 x3_1).f0), .slice (some ad205) ((rd_T45 l0 x3_1).f1).length c202_1] 45 (0, 0)) (by (with_reducible repeat (first | refine blk_drewN ?_ _ | refine blk_drew ?_ | refine blk_alloc ?_ _)); exact BK203.out)) : gb206 ≠ gb203)); clear BK203; clear HB; have BK203 := n0_; have HB := n1_; have BK206 := n2_; have GW206 := n3_; have GE206 := n4_; have NB203_206 := n5_; have NB206_203 := n6_; clear n0_ n1_ n2_ n3_ n4_ n5_ n6_; clear hb hbox hg; have hnb30 := NB206_203.out; have hnc30 := NB203_206.out; have hcz31_0 : w29.cell? ⟨gb206, 0, none⟩ = some (.int .i64 0) := (blk_cell BK206.out 0).trans rfl; have hcz31_1 : w29.cell? ⟨gb206, 1, none⟩ = some (.int .i64 0) := (blk_cell BK206.out 1).trans rfl; have hfz31_0 := blk_frozen BK206.out 0; have hfz31_1 := blk_frozen BK206.out 1)))
              go_ret
              exact ⟨by first | rfl | (simp [errW_none, errW_some] <;> rfl) | (simp [*, errW_none, errW_some] <;> rfl), by repeat (first | (with_reducible first | exact HB.out | apply below_alloc | apply pw_below_drewN | apply below_drew1 | refine below_set ?_ GE203.out | refine below_set ?_ GE206.out) | exact HB.out)⟩
             ·rw [if_neg c27] at H
              have c27b0 : decide (((rd_T47 ((rd_T45 l0 x3_1).f1) x5_3).f1) < ((rd_T47 ((rd_T45 l0 x3_1).f1) x5_3).f0)) = false := decide_eq_false c27
              clear c27
              by_cases c32 : ((rd_T47 ((rd_T45 l0 x3_1).f1) x5_3).f1) > 1000000000
              ·rw [if_pos c32] at H
               have c32b0 : decide (1000000000 < ((rd_T47 ((rd_T45 l0 x3_1).f1) x5_3).f1)) = true := decide_eq_true c32
               clear c32
               obtain rfl := Option.some.inj H
               have hcz33_0 : wr.cell? ⟨gb203, 0, none⟩ = some (.int .i64 ((rd_T45 l0 x3_1).f0)) := (blk_cell BK203.out 0).trans rfl
               have hcz33_1 : wr.cell? ⟨gb203, 1, none⟩ = some (.slice A202_1 ((rd_T45 l0 x3_1).f1).length c202_1) := (blk_cell BK203.out 1).trans rfl
               have hfz33_0 := blk_frozen BK203.out 0
               have hfz33_1 := blk_frozen BK203.out 1
               have p205 : 0 ≤ (x5_3 : Int) := of_decide_eq_true (by first | (with_reducible assumption) | assumption)
               have q205 : x5_3 < (((rd_T45 l0 x3_1).f1).length : Int) := of_decide_eq_true (by first | (with_reducible assumption) | assumption)
               obtain ⟨ad205, e205, hx205_0, hx205_1⟩ := at_T47 HR202_1.out x5_3 p205 q205
               cases e205
               replace hx205_0 := (HB.out.cell (World.block_lt_of_cell? w _ hx205_0)).trans hx205_0
               replace hx205_1 := (HB.out.cell (World.block_lt_of_cell? w _ hx205_1)).trans hx205_1
               replace p205 := eq_true p205
               replace q205 := eq_true q205
               go_wp2_with (first | ((with_reducible refine gate_dst (N := 6) rfl ?_); (try (refine gate_guard (by rfl) ?_; dsimp only)); refine box_event ?hg (N := 6) ?hd (cs := #[.int .i64 0, .int .i64 0]) (t := 47) ?hr ?_; (case hd => rfl); (case hg => rfl); (case hr => first | (go_simp; done) | (go_simp; rfl)); intro gb206 hg w34 hbox hb; have n0_ := Aside0.mk (blk_below (g := gb203) (o := .cells #[.int .i64 ((rd_T45 l0 x3_1).f0), .slice (some ad205) ((rd_T45 l0 x3_1).f1).length c202_1] 45 (0, 0)) (by (with_reducible repeat (first | refine blk_drewN ?_ _ | refine blk_drew ?_ | refine blk_alloc ?_ _)); exact BK203.out) hb); have n1_ := Aside0.mk (below_step (by repeat (first | (with_reducible first | exact HB.out | apply below_alloc | apply pw_below_drewN | apply below_drew1 | refine below_set ?_ GE203.out) | exact HB.out)) hb); have n2_ := Aside0.mk (hbox); have n3_ := Aside0.mk ((by rw [hg]; exact (below_size (by repeat (first | (with_reducible first | exact HB.out | apply below_alloc | apply pw_below_drewN | apply below_drew1 | refine below_set ?_ GE203.out) | exact HB.out))) : w.heap.size ≤ gb206)); have n4_ := Aside0.mk ((by rw [hg]; exact (below_size (by repeat (first | (with_reducible first | exact HB.out | apply below_alloc | apply pw_below_drewN | apply below_drew1 | refine below_set ?_ GE203.out) | exact HB.out))) : w.heap.size ≤ gb206)); have n5_ := Aside0.mk ((by rw [hg]; exact Nat.ne_of_lt (blk_lt (g := gb203) (o := .cells #[.int .i64 ((rd_T45 l0 x3_1).f0), .slice (some ad205) ((rd_T45 l0 x3_1).f1).length c202_1] 45 (0, 0)) (by (with_reducible repeat (first | refine blk_drewN ?_ _ | refine blk_drew ?_ | refine blk_alloc ?_ _)); exact BK203.out)) : gb203 ≠ gb206)); have n6_ := Aside0.mk ((by rw [hg]; exact Nat.ne_of_gt (blk_lt (g := gb203) (o := .cells #[.int .i64 ((rd_T45 l0 x3_1).f0), .slice (some ad205) ((rd_T45 l0 x3_1).f1).length c202_1] 45 (0, 0)) (by (with_reducible repeat (first | refine blk_drewN ?_ _ | refine blk_drew ?_ | refine blk_alloc ?_ _)); exact BK203.out)) : gb206 ≠ gb203)); clear BK203; clear HB; have BK203 := n0_; have HB := n1_; have BK206 := n2_; have GW206 := n3_; have GE206 := n4_; have NB203_206 := n5_; have NB206_203 := n6_; clear n0_ n1_ n2_ n3_ n4_ n5_ n6_; clear hb hbox hg; have hnb35 := NB206_203.out; have hnc35 := NB203_206.out; have hcz36_0 : w34.cell? ⟨gb206, 0, none⟩ = some (.int .i64 0) := (blk_cell BK206.out 0).trans rfl; have hcz36_1 : w34.cell? ⟨gb206, 1, none⟩ = some (.int .i64 0) := (blk_cell BK206.out 1).trans rfl; have hfz36_0 := blk_frozen BK206.out 0; have hfz36_1 := blk_frozen BK206.out 1))
               repeat (go_quiet (first | ((with_reducible refine gate_dst (N := 6) rfl ?_); (try (refine gate_guard (by rfl) ?_; dsimp only)); refine box_event ?hg (N := 6) ?hd (cs := #[.int .i64 0, .int .i64 0]) (t := 47) ?hr ?_; (case hd => rfl); (case hg => rfl); (case hr => first | (go_simp; done) | (go_simp; rfl)); intro gb206 hg w34 hbox hb; have n0_ := Aside0.mk (blk_below (g := gb203) (o := .cells #[.int .i64 ((rd_T45 l0 x3_1).f0), .slice (some ad205) ((rd_T45 l0 x3_1).f1).length c202_1] 45 (0, 0)) (by (with_reducible repeat (first | refine blk_drewN ?_ _ | refine blk_drew ?_ | refine blk_alloc ?_ _)); exact BK203.out) hb); have n1_ := Aside0.mk (below_step (by repeat (first | (with_reducible first | exact HB.out | apply below_alloc | apply pw_below_drewN | apply below_drew1 | refine below_set ?_ GE203.out) | exact HB.out)) hb); have n2_ := Aside0.mk (hbox); have n3_ := Aside0.mk ((by rw [hg]; exact (below_size (by repeat (first | (with_reducible first | exact HB.out | apply below_alloc | apply pw_below_drewN | apply below_drew1 | refine below_set ?_ GE203.out) | exact HB.out))) : w.heap.size ≤ gb206)); have n4_ := Aside0.mk ((by rw [hg]; exact (below_size (by repeat (first | (with_reducible first | exact HB.out | apply below_alloc | apply pw_below_drewN | apply below_drew1 | refine below_set ?_ GE203.out) | exact HB.out))) : w.heap.size ≤ gb206)); have n5_ := Aside0.mk ((by rw [hg]; exact Nat.ne_of_lt (blk_lt (g := gb203) (o := .cells #[.int .i64 ((rd_T45 l0 x3_1).f0), .slice (some ad205) ((rd_T45 l0 x3_1).f1).length c202_1] 45 (0, 0)) (by (with_reducible repeat (first | refine blk_drewN ?_ _ | refine blk_drew ?_ | refine blk_alloc ?_ _)); exact BK203.out)) : gb203 ≠ gb206)); have n6_ := Aside0.mk ((by rw [hg]; exact Nat.ne_of_gt (blk_lt (g := gb203) (o := .cells #[.int .i64 ((rd_T45 l0 x3_1).f0), .slice (some ad205) ((rd_T45 l0 x3_1).f1).length c202_1] 45 (0, 0)) (by (with_reducible repeat (first | refine blk_drewN ?_ _ | refine blk_drew ?_ | refine blk_alloc ?_ _)); exact BK203.out)) : gb206 ≠ gb203)); clear BK203; clear HB; have BK203 := n0_; have HB := n1_; have BK206 := n2_; have GW206 := n3_; have GE206 := n4_; have NB203_206 := n5_; have NB206_203 := n6_; clear n0_ n1_ n2_ n3_ n4_ n5_ n6_; clear hb hbox hg; have hnb35 := NB206_203.out; have hnc35 := NB203_206.out; have hcz36_0 : w34.cell? ⟨gb206, 0, none⟩ = some (.int .i64 0) := (blk_cell BK206.out 0).trans rfl; have hcz36_1 : w34.cell? ⟨gb206, 1, none⟩ = some (.int .i64 0) := (blk_cell BK206.out 1).trans rfl; have hfz36_0 := blk_frozen BK206.out 0; have hfz36_1 := blk_frozen BK206.out 1)); try go_wp2_with (first | ((with_reducible refine gate_dst (N := 6) rfl ?_); (try (refine gate_guard (by rfl) ?_; dsimp only)); refine box_event ?hg (N := 6) ?hd (cs := #[.int .i64 0, .int .i64 0]) (t := 47) ?hr ?_; (case hd => rfl); (case hg => rfl); (case hr => first | (go_simp; done) | (go_simp; rfl)); intro gb206 hg w34 hbox hb; have n0_ := Aside0.mk (blk_below (g := gb203) (o := .cells #[.int .i64 ((rd_T45 l0 x3_1).f0), .slice (some ad205) ((rd_T45 l0 x3_1).f1).length c202_1] 45 (0, 0)) (by (with_reducible repeat (first | refine blk_drewN ?_ _ | refine blk_drew ?_ | refine blk_alloc ?_ _)); exact BK203.out) hb); have n1_ := Aside0.mk (below_step (by repeat (first | (with_reducible first | exact HB.out | apply below_alloc | apply pw_below_drewN | apply below_drew1 | refine below_set ?_ GE203.out) | exact HB.out)) hb); have n2_ := Aside0.mk (hbox); have n3_ := Aside0.mk ((by rw [hg]; exact (below_size (by repeat (first | (with_reducible first | exact HB.out | apply below_alloc | apply pw_below_drewN | apply below_drew1 | refine below_set ?_ GE203.out) | exact HB.out))) : w.heap.size ≤ gb206)); have n4_ := Aside0.mk ((by rw [hg]; exact (below_size (by repeat (first | (with_reducible first | exact HB.out | apply below_alloc | apply pw_below_drewN | apply below_drew1 | refine below_set ?_ GE203.out) | exact HB.out))) : w.heap.size ≤ gb206)); have n5_ := Aside0.mk ((by rw [hg]; exact Nat.ne_of_lt (blk_lt (g := gb203) (o := .cells #[.int .i64 ((rd_T45 l0 x3_1).f0), .slice (some ad205) ((rd_T45 l0 x3_1).f1).length c202_1] 45 (0, 0)) (by (with_reducible repeat (first | refine blk_drewN ?_ _ | refine blk_drew ?_ | refine blk_alloc ?_ _)); exact BK203.out)) : gb203 ≠ gb206)); have n6_ := Aside0.mk ((by rw [hg]; exact Nat.ne_of_gt (blk_lt (g := gb203) (o := .cells #[.int .i64 ((rd_T45 l0 x3_1).f0), .slice (some ad205) ((rd_T45 l0 x3_1).f1).length c202_1] 45 (0, 0)) (by (with_reducible repeat (first | refine blk_drewN ?_ _ | refine blk_drew ?_ | refine blk_alloc ?_ _)); exact BK203.out)) : gb206 ≠ gb203)); clear BK203; clear HB; have BK203 := n0_; have HB := n1_; have BK206 := n2_; have GW206 := n3_; have GE206 := n4_; have NB203_206 := n5_; have NB206_203 := n6_; clear n0_ n1_ n2_ n3_ n4_ n5_ n6_; clear hb hbox hg; have hnb35 := NB206_203.out; have hnc35 := NB203_206.out; have hcz36_0 : w34.cell? ⟨gb206, 0, none⟩ = some (.int .i64 0) := (blk_cell BK206.out 0).trans rfl; have hcz36_1 : w34.cell? ⟨gb206, 1, none⟩ = some (.int .i64 0) := (blk_cell BK206.out 1).trans rfl; have hfz36_0 := blk_frozen BK206.out 0; have hfz36_1 := blk_frozen BK206.out 1)))
               go_ret
               exact ⟨by first | rfl | (simp [errW_none, errW_some] <;> rfl) | (simp [*, errW_none, errW_some] <;> rfl), by repeat (first | (with_reducible first | exact HB.out | apply below_alloc | apply pw_below_drewN | apply below_drew1 | refine below_set ?_ GE203.out | refine below_set ?_ GE206.out) | exact HB.out)⟩
              ·rw [if_neg c32] at H
               have c32b0 : decide (1000000000 < ((rd_T47 ((rd_T45 l0 x3_1).f1) x5_3).f1)) = false := decide_eq_false c32
               clear c32
               by_cases c37 : x5_3 > 0
               ·rw [if_pos c37] at H
                have c37b0 : decide (0 < x5_3) = true := decide_eq_true c37
                clear c37
                obtain ⟨ji38, hji38⟩ : ∃ j_ : Int, (wrap64 (x5_3 - 1)) = j_ := ⟨_, rfl⟩
                replace H : (if 0 ≤ (ji38) then (if (ji38) < (((rd_T45 l0 x3_1).f1).length : Int) then (if ((rd_T47 ((rd_T45 l0 x3_1).f1) x5_3).f0) < (wrap64 (((rd_T47 ((rd_T45 l0 x3_1).f1) (ji38)).f1) + 2)) then (some false) else (slotmeshref26_Valid.l1 k3 l0 x3_1 (wrap64 (x5_3 + 1)) ((rd_T45 l0 x3_1).f0) ((rd_T45 l0 x3_1).f1))) else (none)) else (none)) = some r := by first | (rw [hji38] at H; exact H) | (simp only [hji38] at H ⊢; exact H)
                have hji38w : (IntKind.i64.wrap (x5_3 - 1)) = ji38 := (i64_w _).trans hji38
                by_cases c39 : 0 ≤ (ji38)
                ·rw [if_pos c39] at H
                 have c39b0 : decide (0 ≤ (ji38)) = true := decide_eq_true c39
                 clear c39
                 by_cases c40 : (ji38) < (((rd_T45 l0 x3_1).f1).length : Int)
                 ·rw [if_pos c40] at H
                  have c40b0 : decide ((ji38) < (((rd_T45 l0 x3_1).f1).length : Int)) = true := decide_eq_true c40
                  clear c40
                  by_cases c41 : ((rd_T47 ((rd_T45 l0 x3_1).f1) x5_3).f0) < (wrap64 (((rd_T47 ((rd_T45 l0 x3_1).f1) (ji38)).f1) + 2))
                  ·rw [if_pos c41] at H
                   have c41b0 : decide (((rd_T47 ((rd_T45 l0 x3_1).f1) x5_3).f0) < (wrap64 (((rd_T47 ((rd_T45 l0 x3_1).f1) (ji38)).f1) + 2))) = true := decide_eq_true c41
                   clear c41
                   obtain rfl := Option.some.inj H
                   have hcz42_0 : wr.cell? ⟨gb203, 0, none⟩ = some (.int .i64 ((rd_T45 l0 x3_1).f0)) := (blk_cell BK203.out 0).trans rfl
                   have hcz42_1 : wr.cell? ⟨gb203, 1, none⟩ = some (.slice A202_1 ((rd_T45 l0 x3_1).f1).length c202_1) := (blk_cell BK203.out 1).trans rfl
                   have hfz42_0 := blk_frozen BK203.out 0
                   have hfz42_1 := blk_frozen BK203.out 1
                   have p205 : 0 ≤ (x5_3 : Int) := of_decide_eq_true (by first | (with_reducible assumption) | assumption)
                   have q205 : x5_3 < (((rd_T45 l0 x3_1).f1).length : Int) := of_decide_eq_true (by first | (with_reducible assumption) | assumption)
                   obtain ⟨ad205, e205, hx205_0, hx205_1⟩ := at_T47 HR202_1.out x5_3 p205 q205
                   cases e205
                   replace hx205_0 := (HB.out.cell (World.block_lt_of_cell? w _ hx205_0)).trans hx205_0
                   replace hx205_1 := (HB.out.cell (World.block_lt_of_cell? w _ hx205_1)).trans hx205_1
                   replace p205 := eq_true p205
                   replace q205 := eq_true q205
                   go_wp2_with (first | ((with_reducible refine gate_dst (N := 6) rfl ?_); (try (refine gate_guard (by rfl) ?_; dsimp only)); refine box_event ?hg (N := 6) ?hd (cs := #[.int .i64 0, .int .i64 0]) (t := 47) ?hr ?_; (case hd => rfl); (case hg => rfl); (case hr => first | (go_simp; done) | (go_simp; rfl)); intro gb206 hg w43 hbox hb; have n0_ := Aside0.mk (blk_below (g := gb203) (o := .cells #[.int .i64 ((rd_T45 l0 x3_1).f0), .slice (some ad205) ((rd_T45 l0 x3_1).f1).length c202_1] 45 (0, 0)) (by (with_reducible repeat (first | refine blk_drewN ?_ _ | refine blk_drew ?_ | refine blk_alloc ?_ _)); exact BK203.out) hb); have n1_ := Aside0.mk (below_step (by repeat (first | (with_reducible first | exact HB.out | apply below_alloc | apply pw_below_drewN | apply below_drew1 | refine below_set ?_ GE203.out) | exact HB.out)) hb); have n2_ := Aside0.mk (hbox); have n3_ := Aside0.mk ((by rw [hg]; exact (below_size (by repeat (first | (with_reducible first | exact HB.out | apply below_alloc | apply pw_below_drewN | apply below_drew1 | refine below_set ?_ GE203.out) | exact HB.out))) : w.heap.size ≤ gb206)); have n4_ := Aside0.mk ((by rw [hg]; exact (below_size (by repeat (first | (with_reducible first | exact HB.out | apply below_alloc | apply pw_below_drewN | apply below_drew1 | refine below_set ?_ GE203.out) | exact HB.out))) : w.heap.size ≤ gb206)); have n5_ := Aside0.mk ((by rw [hg]; exact Nat.ne_of_lt (blk_lt (g := gb203) (o := .cells #[.int .i64 ((rd_T45 l0 x3_1).f0), .slice (some ad205) ((rd_T45 l0 x3_1).f1).length c202_1] 45 (0, 0)) (by (with_reducible repeat (first | refine blk_drewN ?_ _ | refine blk_drew ?_ | refine blk_alloc ?_ _)); exact BK203.out)) : gb203 ≠ gb206)); have n6_ := Aside0.mk ((by rw [hg]; exact Nat.ne_of_gt (blk_lt (g := gb203) (o := .cells #[.int .i64 ((rd_T45 l0 x3_1).f0), .slice (some ad205) ((rd_T45 l0 x3_1).f1).length c202_1] 45 (0, 0)) (by (with_reducible repeat (first | refine blk_drewN ?_ _ | refine blk_drew ?_ | refine blk_alloc ?_ _)); exact BK203.out)) : gb206 ≠ gb203)); clear BK203; clear HB; have BK203 := n0_; have HB := n1_; have BK206 := n2_; have GW206 := n3_; have GE206 := n4_; have NB203_206 := n5_; have NB206_203 := n6_; clear n0_ n1_ n2_ n3_ n4_ n5_ n6_; clear hb hbox hg; have hnb44 := NB206_203.out; have hnc44 := NB203_206.out; have hcz45_0 : w43.cell? ⟨gb206, 0, none⟩ = some (.int .i64 0) := (blk_cell BK206.out 0).trans rfl; have hcz45_1 : w43.cell? ⟨gb206, 1, none⟩ = some (.int .i64 0) := (blk_cell BK206.out 1).trans rfl; have hfz45_0 := blk_frozen BK206.out 0; have hfz45_1 := blk_frozen BK206.out 1; have hcz46_0 : w43.cell? ⟨gb203, 0, none⟩ = some (.int .i64 ((rd_T45 l0 x3_1).f0)) := (blk_cell BK203.out 0).trans rfl; have hcz46_1 : w43.cell? ⟨gb203, 1, none⟩ = some (.slice (some ad205) ((rd_T45 l0 x3_1).f1).length c202_1) := (blk_cell BK203.out 1).trans rfl; have hfz46_0 := blk_frozen BK203.out 0; have hfz46_1 := blk_frozen BK203.out 1; have p207 : 0 ≤ ((ji38) : Int) := of_decide_eq_true (by first | (with_reducible assumption) | assumption); have q207 : (ji38) < (((rd_T45 l0 x3_1).f1).length : Int) := of_decide_eq_true (by first | (with_reducible assumption) | assumption); obtain ⟨ad207, e207, hx207_0, hx207_1⟩ := at_T47 HR202_1.out (ji38) p207 q207; obtain rfl : ad205 = ad207 := (by injection e207); have hn207_0 : ad205.block ≠ gb206 := Nat.ne_of_lt (Nat.lt_of_lt_of_le (by have := World.block_lt_of_cell? _ _ hx207_0; first | rwa [add_block] at this | exact this) GW206.out); have hn207_1 : ad205.block ≠ gb206 := Nat.ne_of_lt (Nat.lt_of_lt_of_le (by have := World.block_lt_of_cell? _ _ hx207_0; first | rwa [add_block] at this | exact this) GW206.out); replace hx207_0 := (HB.out.cell (World.block_lt_of_cell? w _ hx207_0)).trans hx207_0; replace hx207_1 := (HB.out.cell (World.block_lt_of_cell? w _ hx207_1)).trans hx207_1; replace hx207_0 := (cell_far (p := ⟨gb206, 0, none⟩) (by first | (rw [add_block]; exact hn207_0) | (show (Addr.add _ _).block ≠ _; rw [add_block]; exact hn207_0) | exact hn207_0) (.int .i64 ((rd_T47 ((rd_T45 l0 x3_1).f1) x5_3).f0))).trans hx207_0; replace hx207_1 := (cell_far (p := ⟨gb206, 0, none⟩) (by first | (rw [add_block]; exact hn207_0) | (show (Addr.add _ _).block ≠ _; rw [add_block]; exact hn207_0) | exact hn207_0) (.int .i64 ((rd_T47 ((rd_T45 l0 x3_1).f1) x5_3).f0))).trans hx207_1; replace hx207_0 := (cell_far (p := ⟨gb206, 1, none⟩) (by first | (rw [add_block]; exact hn207_1) | (show (Addr.add _ _).block ≠ _; rw [add_block]; exact hn207_1) | exact hn207_1) (.int .i64 ((rd_T47 ((rd_T45 l0 x3_1).f1) x5_3).f1))).trans hx207_0; replace hx207_1 := (cell_far (p := ⟨gb206, 1, none⟩) (by first | (rw [add_block]; exact hn207_1) | (show (Addr.add _ _).block ≠ _; rw [add_block]; exact hn207_1) | exact hn207_1) (.int .i64 ((rd_T47 ((rd_T45 l0 x3_1).f1) x5_3).f1))).trans hx207_1; (try have hy207_0 := fun (n_ : Nat) => (show ((((w43.drewN n_).setCell ⟨gb206, 0, none⟩ (.int .i64 ((rd_T47 ((rd_T45 l0 x3_1).f1) x5_3).f0))).setCell ⟨gb206, 1, none⟩ (.int .i64 ((rd_T47 ((rd_T45 l0 x3_1).f1) x5_3).f1)))).cell? _ = some _ from hx207_0)); (try have hy207_1 := fun (n_ : Nat) => (show ((((w43.drewN n_).setCell ⟨gb206, 0, none⟩ (.int .i64 ((rd_T47 ((rd_T45 l0 x3_1).f1) x5_3).f0))).setCell ⟨gb206, 1, none⟩ (.int .i64 ((rd_T47 ((rd_T45 l0 x3_1).f1) x5_3).f1)))).cell? _ = some _ from hx207_1)); clear hn207_0; clear hn207_1; replace p207 := eq_true p207; replace q207 := eq_true q207))
                   repeat (go_quiet (first | ((with_reducible refine gate_dst (N := 6) rfl ?_); (try (refine gate_guard (by rfl) ?_; dsimp only)); refine box_event ?hg (N := 6) ?hd (cs := #[.int .i64 0, .int .i64 0]) (t := 47) ?hr ?_; (case hd => rfl); (case hg => rfl); (case hr => first | (go_simp; done) | (go_simp; rfl)); intro gb206 hg w43 hbox hb; have n0_ := Aside0.mk (blk_below (g := gb203) (o := .cells #[.int .i64 ((rd_T45 l0 x3_1).f0), .slice (some ad205) ((rd_T45 l0 x3_1).f1).length c202_1] 45 (0, 0)) (by (with_reducible repeat (first | refine blk_drewN ?_ _ | refine blk_drew ?_ | refine blk_alloc ?_ _)); exact BK203.out) hb); have n1_ := Aside0.mk (below_step (by repeat (first | (with_reducible first | exact HB.out | apply below_alloc | apply pw_below_drewN | apply below_drew1 | refine below_set ?_ GE203.out) | exact HB.out)) hb); have n2_ := Aside0.mk (hbox); have n3_ := Aside0.mk ((by rw [hg]; exact (below_size (by repeat (first | (with_reducible first | exact HB.out | apply below_alloc | apply pw_below_drewN | apply below_drew1 | refine below_set ?_ GE203.out) | exact HB.out))) : w.heap.size ≤ gb206)); have n4_ := Aside0.mk ((by rw [hg]; exact (below_size (by repeat (first | (with_reducible first | exact HB.out | apply below_alloc | apply pw_below_drewN | apply below_drew1 | refine below_set ?_ GE203.out) | exact HB.out))) : w.heap.size ≤ gb206)); have n5_ := Aside0.mk ((by rw [hg]; exact Nat.ne_of_lt (blk_lt (g := gb203) (o := .cells #[.int .i64 ((rd_T45 l0 x3_1).f0), .slice (some ad205) ((rd_T45 l0 x3_1).f1).length c202_1] 45 (0, 0)) (by (with_reducible repeat (first | refine blk_drewN ?_ _ | refine blk_drew ?_ | refine blk_alloc ?_ _)); exact BK203.out)) : gb203 ≠ gb206)); have n6_ := Aside0.mk ((by rw [hg]; exact Nat.ne_of_gt (blk_lt (g := gb203) (o := .cells #[.int .i64 ((rd_T45 l0 x3_1).f0), .slice (some ad205) ((rd_T45 l0 x3_1).f1).length c202_1] 45 (0, 0)) (by (with_reducible repeat (first | refine blk_drewN ?_ _ | refine blk_drew ?_ | refine blk_alloc ?_ _)); exact BK203.out)) : gb206 ≠ gb203)); clear BK203; clear HB; have BK203 := n0_; have HB := n1_; have BK206 := n2_; have GW206 := n3_; have GE206 := n4_; have NB203_206 := n5_; have NB206_203 := n6_; clear n0_ n1_ n2_ n3_ n4_ n5_ n6_; clear hb hbox hg; have hnb44 := NB206_203.out; have hnc44 := NB203_206.out; have hcz45_0 : w43.cell? ⟨gb206, 0, none⟩ = some (.int .i64 0) := (blk_cell BK206.out 0).trans rfl; have hcz45_1 : w43.cell? ⟨gb206, 1, none⟩ = some (.int .i64 0) := (blk_cell BK206.out 1).trans rfl; have hfz45_0 := blk_frozen BK206.out 0; have hfz45_1 := blk_frozen BK206.out 1; have hcz46_0 : w43.cell? ⟨gb203, 0, none⟩ = some (.int .i64 ((rd_T45 l0 x3_1).f0)) := (blk_cell BK203.out 0).trans rfl; have hcz46_1 : w43.cell? ⟨gb203, 1, none⟩ = some (.slice (some ad205) ((rd_T45 l0 x3_1).f1).length c202_1) := (blk_cell BK203.out 1).trans rfl; have hfz46_0 := blk_frozen BK203.out 0; have hfz46_1 := blk_frozen BK203.out 1; have p207 : 0 ≤ ((ji38) : Int) := of_decide_eq_true (by first | (with_reducible assumption) | assumption); have q207 : (ji38) < (((rd_T45 l0 x3_1).f1).length : Int) := of_decide_eq_true (by first | (with_reducible assumption) | assumption); obtain ⟨ad207, e207, hx207_0, hx207_1⟩ := at_T47 HR202_1.out (ji38) p207 q207; obtain rfl : ad205 = ad207 := (by injection e207); have hn207_0 : ad205.block ≠ gb206 := Nat.ne_of_lt (Nat.lt_of_lt_of_le (by have := World.block_lt_of_cell? _ _ hx207_0; first | rwa [add_block] at this | exact this) GW206.out); have hn207_1 : ad205.block ≠ gb206 := Nat.ne_of_lt (Nat.lt_of_lt_of_le (by have := World.block_lt_of_cell? _ _ hx207_0; first | rwa [add_block] at this | exact this) GW206.out); replace hx207_0 := (HB.out.cell (World.block_lt_of_cell? w _ hx207_0)).trans hx207_0; replace hx207_1 := (HB.out.cell (World.block_lt_of_cell? w _ hx207_1)).trans hx207_1; replace hx207_0 := (cell_far (p := ⟨gb206, 0, none⟩) (by first | (rw [add_block]; exact hn207_0) | (show (Addr.add _ _).block ≠ _; rw [add_block]; exact hn207_0) | exact hn207_0) (.int .i64 ((rd_T47 ((rd_T45 l0 x3_1).f1) x5_3).f0))).trans hx207_0; replace hx207_1 := (cell_far (p := ⟨gb206, 0, none⟩) (by first | (rw [add_block]; exact hn207_0) | (show (Addr.add _ _).block ≠ _; rw [add_block]; exact hn207_0) | exact hn207_0) (.int .i64 ((rd_T47 ((rd_T45 l0 x3_1).f1) x5_3).f0))).trans hx207_1; replace hx207_0 := (cell_far (p := ⟨gb206, 1, none⟩) (by first | (rw [add_block]; exact hn207_1) | (show (Addr.add _ _).block ≠ _; rw [add_block]; exact hn207_1) | exact hn207_1) (.int .i64 ((rd_T47 ((rd_T45 l0 x3_1).f1) x5_3).f1))).trans hx207_0; replace hx207_1 := (cell_far (p := ⟨gb206, 1, none⟩) (by first | (rw [add_block]; exact hn207_1) | (show (Addr.add _ _).block ≠ _; rw [add_block]; exact hn207_1) | exact hn207_1) (.int .i64 ((rd_T47 ((rd_T45 l0 x3_1).f1) x5_3).f1))).trans hx207_1; (try have hy207_0 := fun (n_ : Nat) => (show ((((w43.drewN n_).setCell ⟨gb206, 0, none⟩ (.int .i64 ((rd_T47 ((rd_T45 l0 x3_1).f1) x5_3).f0))).setCell ⟨gb206, 1, none⟩ (.int .i64 ((rd_T47 ((rd_T45 l0 x3_1).f1) x5_3).f1)))).cell? _ = some _ from hx207_0)); (try have hy207_1 := fun (n_ : Nat) => (show ((((w43.drewN n_).setCell ⟨gb206, 0, none⟩ (.int .i64 ((rd_T47 ((rd_T45 l0 x3_1).f1) x5_3).f0))).setCell ⟨gb206, 1, none⟩ (.int .i64 ((rd_T47 ((rd_T45 l0 x3_1).f1) x5_3).f1)))).cell? _ = some _ from hx207_1)); clear hn207_0; clear hn207_1; replace p207 := eq_true p207; replace q207 := eq_true q207)); try go_wp2_with (first | ((with_reducible refine gate_dst (N := 6) rfl ?_); (try (refine gate_guard (by rfl) ?_; dsimp only)); refine box_event ?hg (N := 6) ?hd (cs := #[.int .i64 0, .int .i64 0]) (t := 47) ?hr ?_; (case hd => rfl); (case hg => rfl); (case hr => first | (go_simp; done) | (go_simp; rfl)); intro gb206 hg w43 hbox hb; have n0_ := Aside0.mk (blk_below (g := gb203) (o := .cells #[.int .i64 ((rd_T45 l0 x3_1).f0), .slice (some ad205) ((rd_T45 l0 x3_1).f1).length c202_1] 45 (0, 0)) (by (with_reducible repeat (first | refine blk_drewN ?_ _ | refine blk_drew ?_ | refine blk_alloc ?_ _)); exact BK203.out) hb); have n1_ := Aside0.mk (below_step (by repeat (first | (with_reducible first | exact HB.out | apply below_alloc | apply pw_below_drewN | apply below_drew1 | refine below_set ?_ GE203.out) | exact HB.out)) hb); have n2_ := Aside0.mk (hbox); have n3_ := Aside0.mk ((by rw [hg]; exact (below_size (by repeat (first | (with_reducible first | exact HB.out | apply below_alloc | apply pw_below_drewN | apply below_drew1 | refine below_set ?_ GE203.out) | exact HB.out))) : w.heap.size ≤ gb206)); have n4_ := Aside0.mk ((by rw [hg]; exact (below_size (by repeat (first | (with_reducible first | exact HB.out | apply below_alloc | apply pw_below_drewN | apply below_drew1 | refine below_set ?_ GE203.out) | exact HB.out))) : w.heap.size ≤ gb206)); have n5_ := Aside0.mk ((by rw [hg]; exact Nat.ne_of_lt (blk_lt (g := gb203) (o := .cells #[.int .i64 ((rd_T45 l0 x3_1).f0), .slice (some ad205) ((rd_T45 l0 x3_1).f1).length c202_1] 45 (0, 0)) (by (with_reducible repeat (first | refine blk_drewN ?_ _ | refine blk_drew ?_ | refine blk_alloc ?_ _)); exact BK203.out)) : gb203 ≠ gb206)); have n6_ := Aside0.mk ((by rw [hg]; exact Nat.ne_of_gt (blk_lt (g := gb203) (o := .cells #[.int .i64 ((rd_T45 l0 x3_1).f0), .slice (some ad205) ((rd_T45 l0 x3_1).f1).length c202_1] 45 (0, 0)) (by (with_reducible repeat (first | refine blk_drewN ?_ _ | refine blk_drew ?_ | refine blk_alloc ?_ _)); exact BK203.out)) : gb206 ≠ gb203)); clear BK203; clear HB; have BK203 := n0_; have HB := n1_; have BK206 := n2_; have GW206 := n3_; have GE206 := n4_; have NB203_206 := n5_; have NB206_203 := n6_; clear n0_ n1_ n2_ n3_ n4_ n5_ n6_; clear hb hbox hg; have hnb44 := NB206_203.out; have hnc44 := NB203_206.out; have hcz45_0 : w43.cell? ⟨gb206, 0, none⟩ = some (.int .i64 0) := (blk_cell BK206.out 0).trans rfl; have hcz45_1 : w43.cell? ⟨gb206, 1, none⟩ = some (.int .i64 0) := (blk_cell BK206.out 1).trans rfl; have hfz45_0 := blk_frozen BK206.out 0; have hfz45_1 := blk_frozen BK206.out 1; have hcz46_0 : w43.cell? ⟨gb203, 0, none⟩ = some (.int .i64 ((rd_T45 l0 x3_1).f0)) := (blk_cell BK203.out 0).trans rfl; have hcz46_1 : w43.cell? ⟨gb203, 1, none⟩ = some (.slice (some ad205) ((rd_T45 l0 x3_1).f1).length c202_1) := (blk_cell BK203.out 1).trans rfl; have hfz46_0 := blk_frozen BK203.out 0; have hfz46_1 := blk_frozen BK203.out 1; have p207 : 0 ≤ ((ji38) : Int) := of_decide_eq_true (by first | (with_reducible assumption) | assumption); have q207 : (ji38) < (((rd_T45 l0 x3_1).f1).length : Int) := of_decide_eq_true (by first | (with_reducible assumption) | assumption); obtain ⟨ad207, e207, hx207_0, hx207_1⟩ := at_T47 HR202_1.out (ji38) p207 q207; obtain rfl : ad205 = ad207 := (by injection e207); have hn207_0 : ad205.block ≠ gb206 := Nat.ne_of_lt (Nat.lt_of_lt_of_le (by have := World.block_lt_of_cell? _ _ hx207_0; first | rwa [add_block] at this | exact this) GW206.out); have hn207_1 : ad205.block ≠ gb206 := Nat.ne_of_lt (Nat.lt_of_lt_of_le (by have := World.block_lt_of_cell? _ _ hx207_0; first | rwa [add_block] at this | exact this) GW206.out); replace hx207_0 := (HB.out.cell (World.block_lt_of_cell? w _ hx207_0)).trans hx207_0; replace hx207_1 := (HB.out.cell (World.block_lt_of_cell? w _ hx207_1)).trans hx207_1; replace hx207_0 := (cell_far (p := ⟨gb206, 0, none⟩) (by first | (rw [add_block]; exact hn207_0) | (show (Addr.add _ _).block ≠ _; rw [add_block]; exact hn207_0) | exact hn207_0) (.int .i64 ((rd_T47 ((rd_T45 l0 x3_1).f1) x5_3).f0))).trans hx207_0; replace hx207_1 := (cell_far (p := ⟨gb206, 0, none⟩) (by first | (rw [add_block]; exact hn207_0) | (show (Addr.add _ _).block ≠ _; rw [add_block]; exact hn207_0) | exact hn207_0) (.int .i64 ((rd_T47 ((rd_T45 l0 x3_1).f1) x5_3).f0))).trans hx207_1; replace hx207_0 := (cell_far (p := ⟨gb206, 1, none⟩) (by first | (rw [add_block]; exact hn207_1) | (show (Addr.add _ _).block ≠ _; rw [add_block]; exact hn207_1) | exact hn207_1) (.int .i64 ((rd_T47 ((rd_T45 l0 x3_1).f1) x5_3).f1))).trans hx207_0; replace hx207_1 := (cell_far (p := ⟨gb206, 1, none⟩) (by first | (rw [add_block]; exact hn207_1) | (show (Addr.add _ _).block ≠ _; rw [add_block]; exact hn207_1) | exact hn207_1) (.int .i64 ((rd_T47 ((rd_T45 l0 x3_1).f1) x5_3).f1))).trans hx207_1; (try have hy207_0 := fun (n_ : Nat) => (show ((((w43.drewN n_).setCell ⟨gb206, 0, none⟩ (.int .i64 ((rd_T47 ((rd_T45 l0 x3_1).f1) x5_3).f0))).setCell ⟨gb206, 1, none⟩ (.int .i64 ((rd_T47 ((rd_T45 l0 x3_1).f1) x5_3).f1)))).cell? _ = some _ from hx207_0)); (try have hy207_1 := fun (n_ : Nat) => (show ((((w43.drewN n_).setCell ⟨gb206, 0, none⟩ (.int .i64 ((rd_T47 ((rd_T45 l0 x3_1).f1) x5_3).f0))).setCell ⟨gb206, 1, none⟩ (.int .i64 ((rd_T47 ((rd_T45 l0 x3_1).f1) x5_3).f1)))).cell? _ = some _ from hx207_1)); clear hn207_0; clear hn207_1; replace p207 := eq_true p207; replace q207 := eq_true q207)))
                   go_ret
                   exact ⟨by first | rfl | (simp [errW_none, errW_some] <;> rfl) | (simp only [← hji38]; first | rfl | (simp [errW_none, errW_some] <;> rfl)) | (simp [*, errW_none, errW_some] <;> rfl), by repeat (first | (with_reducible first | exact HB.out | apply below_alloc | apply pw_below_drewN | apply below_drew1 | refine below_set ?_ GE203.out | refine below_set ?_ GE206.out) | exact HB.out)⟩
                  ·rw [if_neg c41] at H
                   have c41b0 : decide (((rd_T47 ((rd_T45 l0 x3_1).f1) x5_3).f0) < (wrap64 (((rd_T47 ((rd_T45 l0 x3_1).f1) (ji38)).f1) + 2))) = false := decide_eq_false c41
                   clear c41
                   have H' := Aside0.mk H
                   clear H
                   have hcz47_0 : wr.cell? ⟨gb203, 0, none⟩ = some (.int .i64 ((rd_T45 l0 x3_1).f0)) := (blk_cell BK203.out 0).trans rfl
                   have hcz47_1 : wr.cell? ⟨gb203, 1, none⟩ = some (.slice A202_1 ((rd_T45 l0 x3_1).f1).length c202_1) := (blk_cell BK203.out 1).trans rfl
                   have hfz47_0 := blk_frozen BK203.out 0
                   have hfz47_1 := blk_frozen BK203.out 1
                   have p205 : 0 ≤ (x5_3 : Int) := of_decide_eq_true (by first | (with_reducible assumption) | assumption)
                   have q205 : x5_3 < (((rd_T45 l0 x3_1).f1).length : Int) := of_decide_eq_true (by first | (with_reducible assumption) | assumption)
                   obtain ⟨ad205, e205, hx205_0, hx205_1⟩ := at_T47 HR202_1.out x5_3 p205 q205
                   cases e205
                   replace hx205_0 := (HB.out.cell (World.block_lt_of_cell? w _ hx205_0)).trans hx205_0
                   replace hx205_1 := (HB.out.cell (World.block_lt_of_cell? w _ hx205_1)).trans hx205_1
                   replace p205 := eq_true p205
                   replace q205 := eq_true q205
                   go_wp2_with (first | ((with_reducible refine gate_dst (N := 6) rfl ?_); (try (refine gate_guard (by rfl) ?_; dsimp only)); refine box_event ?hg (N := 6) ?hd (cs := #[.int .i64 0, .int .i64 0]) (t := 47) ?hr ?_; (case hd => rfl); (case hg => rfl); (case hr => first | (go_simp; done) | (go_simp; rfl)); intro gb206 hg w48 hbox hb; have n0_ := Aside0.mk (blk_below (g := gb203) (o := .cells #[.int .i64 ((rd_T45 l0 x3_1).f0), .slice (some ad205) ((rd_T45 l0 x3_1).f1).length c202_1] 45 (0, 0)) (by (with_reducible repeat (first | refine blk_drewN ?_ _ | refine blk_drew ?_ | refine blk_alloc ?_ _)); exact BK203.out) hb); have n1_ := Aside0.mk (below_step (by repeat (first | (with_reducible first | exact HB.out | apply below_alloc | apply pw_below_drewN | apply below_drew1 | refine below_set ?_ GE203.out) | exact HB.out)) hb); have n2_ := Aside0.mk (hbox); have n3_ := Aside0.mk ((by rw [hg]; exact (below_size (by repeat (first | (with_reducible first | exact HB.out | apply below_alloc | apply pw_below_drewN | apply below_drew1 | refine below_set ?_ GE203.out) | exact HB.out))) : w.heap.size ≤ gb206)); have n4_ := Aside0.mk ((by rw [hg]; exact (below_size (by repeat (first | (with_reducible first | exact HB.out | apply below_alloc | apply pw_below_drewN | apply below_drew1 | refine below_set ?_ GE203.out) | exact HB.out))) : w.heap.size ≤ gb206)); have n5_ := Aside0.mk ((by rw [hg]; exact Nat.ne_of_lt (blk_lt (g := gb203) (o := .cells #[.int .i64 ((rd_T45 l0 x3_1).f0), .slice (some ad205) ((rd_T45 l0 x3_1).f1).length c202_1] 45 (0, 0)) (by (with_reducible repeat (first | refine blk_drewN ?_ _ | refine blk_drew ?_ | refine blk_alloc ?_ _)); exact BK203.out)) : gb203 ≠ gb206)); have n6_ := Aside0.mk ((by rw [hg]; exact Nat.ne_of_gt (blk_lt (g := gb203) (o := .cells #[.int .i64 ((rd_T45 l0 x3_1).f0), .slice (some ad205) ((rd_T45 l0 x3_1).f1).length c202_1] 45 (0, 0)) (by (with_reducible repeat (first | refine blk_drewN ?_ _ | refine blk_drew ?_ | refine blk_alloc ?_ _)); exact BK203.out)) : gb206 ≠ gb203)); clear BK203; clear HB; have BK203 := n0_; have HB := n1_; have BK206 := n2_; have GW206 := n3_; have GE206 := n4_; have NB203_206 := n5_; have NB206_203 := n6_; clear n0_ n1_ n2_ n3_ n4_ n5_ n6_; clear hb hbox hg; have hnb49 := NB206_203.out; have hnc49 := NB203_206.out; have hcz50_0 : w48.cell? ⟨gb206, 0, none⟩ = some (.int .i64 0) := (blk_cell BK206.out 0).trans rfl; have hcz50_1 : w48.cell? ⟨gb206, 1, none⟩ = some (.int .i64 0) := (blk_cell BK206.out 1).trans rfl; have hfz50_0 := blk_frozen BK206.out 0; have hfz50_1 := blk_frozen BK206.out 1; have hcz51_0 : w48.cell? ⟨gb203, 0, none⟩ = some (.int .i64 ((rd_T45 l0 x3_1).f0)) := (blk_cell BK203.out 0).trans rfl; have hcz51_1 : w48.cell? ⟨gb203, 1, none⟩ = some (.slice (some ad205) ((rd_T45 l0 x3_1).f1).length c202_1) := (blk_cell BK203.out 1).trans rfl; have hfz51_0 := blk_frozen BK203.out 0; have hfz51_1 := blk_frozen BK203.out 1; have p207 : 0 ≤ ((ji38) : Int) := of_decide_eq_true (by first | (with_reducible assumption) | assumption); have q207 : (ji38) < (((rd_T45 l0 x3_1).f1).length : Int) := of_decide_eq_true (by first | (with_reducible assumption) | assumption); obtain ⟨ad207, e207, hx207_0, hx207_1⟩ := at_T47 HR202_1.out (ji38) p207 q207; obtain rfl : ad205 = ad207 := (by injection e207); have hn207_0 : ad205.block ≠ gb206 := Nat.ne_of_lt (Nat.lt_of_lt_of_le (by have := World.block_lt_of_cell? _ _ hx207_0; first | rwa [add_block] at this | exact this) GW206.out); have hn207_1 : ad205.block ≠ gb206 := Nat.ne_of_lt (Nat.lt_of_lt_of_le (by have := World.block_lt_of_cell? _ _ hx207_0; first | rwa [add_block] at this | exact this) GW206.out); replace hx207_0 := (HB.out.cell (World.block_lt_of_cell? w _ hx207_0)).trans hx207_0; replace hx207_1 := (HB.out.cell (World.block_lt_of_cell? w _ hx207_1)).trans hx207_1; replace hx207_0 := (cell_far (p := ⟨gb206, 0, none⟩) (by first | (rw [add_block]; exact hn207_0) | (show (Addr.add _ _).block ≠ _; rw [add_block]; exact hn207_0) | exact hn207_0) (.int .i64 ((rd_T47 ((rd_T45 l0 x3_1).f1) x5_3).f0))).trans hx207_0; replace hx207_1 := (cell_far (p := ⟨gb206, 0, none⟩) (by first | (rw [add_block]; exact hn207_0) | (show (Addr.add _ _).block ≠ _; rw [add_block]; exact hn207_0) | exact hn207_0) (.int .i64 ((rd_T47 ((rd_T45 l0 x3_1).f1) x5_3).f0))).trans hx207_1; replace hx207_0 := (cell_far (p := ⟨gb206, 1, none⟩) (by first | (rw [add_block]; exact hn207_1) | (show (Addr.add _ _).block ≠ _; rw [add_block]; exact hn207_1) | exact hn207_1) (.int .i64 ((rd_T47 ((rd_T45 l0 x3_1).f1) x5_3).f1))).trans hx207_0; replace hx207_1 := (cell_far (p := ⟨gb206, 1, none⟩) (by first | (rw [add_block]; exact hn207_1) | (show (Addr.add _ _).block ≠ _; rw [add_block]; exact hn207_1) | exact hn207_1) (.int .i64 ((rd_T47 ((rd_T45 l0 x3_1).f1) x5_3).f1))).trans hx207_1; (try have hy207_0 := fun (n_ : Nat) => (show ((((w48.drewN n_).setCell ⟨gb206, 0, none⟩ (.int .i64 ((rd_T47 ((rd_T45 l0 x3_1).f1) x5_3).f0))).setCell ⟨gb206, 1, none⟩ (.int .i64 ((rd_T47 ((rd_T45 l0 x3_1).f1) x5_3).f1)))).cell? _ = some _ from hx207_0)); (try have hy207_1 := fun (n_ : Nat) => (show ((((w48.drewN n_).setCell ⟨gb206, 0, none⟩ (.int .i64 ((rd_T47 ((rd_T45 l0 x3_1).f1) x5_3).f0))).setCell ⟨gb206, 1, none⟩ (.int .i64 ((rd_T47 ((rd_T45 l0 x3_1).f1) x5_3).f1)))).cell? _ = some _ from hx207_1)); clear hn207_0; clear hn207_1; replace p207 := eq_true p207; replace q207 := eq_true q207))
                   repeat (go_quiet (first | ((with_reducible refine gate_dst (N := 6) rfl ?_); (try (refine gate_guard (by rfl) ?_; dsimp only)); refine box_event ?hg (N := 6) ?hd (cs := #[.int .i64 0, .int .i64 0]) (t := 47) ?hr ?_; (case hd => rfl); (case hg => rfl); (case hr => first | (go_simp; done) | (go_simp; rfl)); intro gb206 hg w48 hbox hb; have n0_ := Aside0.mk (blk_below (g := gb203) (o := .cells #[.int .i64 ((rd_T45 l0 x3_1).f0), .slice (some ad205) ((rd_T45 l0 x3_1).f1).length c202_1] 45 (0, 0)) (by (with_reducible repeat (first | refine blk_drewN ?_ _ | refine blk_drew ?_ | refine blk_alloc ?_ _)); exact BK203.out) hb); have n1_ := Aside0.mk (below_step (by repeat (first | (with_reducible first | exact HB.out | apply below_alloc | apply pw_below_drewN | apply below_drew1 | refine below_set ?_ GE203.out) | exact HB.out)) hb); have n2_ := Aside0.mk (hbox); have n3_ := Aside0.mk ((by rw [hg]; exact (below_size (by repeat (first | (with_reducible first | exact HB.out | apply below_alloc | apply pw_below_drewN | apply below_drew1 | refine below_set ?_ GE203.out) | exact HB.out))) : w.heap.size ≤ gb206)); have n4_ := Aside0.mk ((by rw [hg]; exact (below_size (by repeat (first | (with_reducible first | exact HB.out | apply below_alloc | apply pw_below_drewN | apply below_drew1 | refine below_set ?_ GE203.out) | exact HB.out))) : w.heap.size ≤ gb206)); have n5_ := Aside0.mk ((by rw [hg]; exact Nat.ne_of_lt (blk_lt (g := gb203) (o := .cells #[.int .i64 ((rd_T45 l0 x3_1).f0), .slice (some ad205) ((rd_T45 l0 x3_1).f1).length c202_1] 45 (0, 0)) (by (with_reducible repeat (first | refine blk_drewN ?_ _ | refine blk_drew ?_ | refine blk_alloc ?_ _)); exact BK203.out)) : gb203 ≠ gb206)); have n6_ := Aside0.mk ((by rw [hg]; exact Nat.ne_of_gt (blk_lt (g := gb203) (o := .cells #[.int .i64 ((rd_T45 l0 x3_1).f0), .slice (some ad205) ((rd_T45 l0 x3_1).f1).length c202_1] 45 (0, 0)) (by (with_reducible repeat (first | refine blk_drewN ?_ _ | refine blk_drew ?_ | refine blk_alloc ?_ _)); exact BK203.out)) : gb206 ≠ gb203)); clear BK203; clear HB; have BK203 := n0_; have HB := n1_; have BK206 := n2_; have GW206 := n3_; have GE206 := n4_; have NB203_206 := n5_; have NB206_203 := n6_; clear n0_ n1_ n2_ n3_ n4_ n5_ n6_; clear hb hbox hg; have hnb49 := NB206_203.out; have hnc49 := NB203_206.out; have hcz50_0 : w48.cell? ⟨gb206, 0, none⟩ = some (.int .i64 0) := (blk_cell BK206.out 0).trans rfl; have hcz50_1 : w48.cell? ⟨gb206, 1, none⟩ = some (.int .i64 0) := (blk_cell BK206.out 1).trans rfl; have hfz50_0 := blk_frozen BK206.out 0; have hfz50_1 := blk_frozen BK206.out 1; have hcz51_0 : w48.cell? ⟨gb203, 0, none⟩ = some (.int .i64 ((rd_T45 l0 x3_1).f0)) := (blk_cell BK203.out 0).trans rfl; have hcz51_1 : w48.cell? ⟨gb203, 1, none⟩ = some (.slice (some ad205) ((rd_T45 l0 x3_1).f1).length c202_1) := (blk_cell BK203.out 1).trans rfl; have hfz51_0 := blk_frozen BK203.out 0; have hfz51_1 := blk_frozen BK203.out 1; have p207 : 0 ≤ ((ji38) : Int) := of_decide_eq_true (by first | (with_reducible assumption) | assumption); have q207 : (ji38) < (((rd_T45 l0 x3_1).f1).length : Int) := of_decide_eq_true (by first | (with_reducible assumption) | assumption); obtain ⟨ad207, e207, hx207_0, hx207_1⟩ := at_T47 HR202_1.out (ji38) p207 q207; obtain rfl : ad205 = ad207 := (by injection e207); have hn207_0 : ad205.block ≠ gb206 := Nat.ne_of_lt (Nat.lt_of_lt_of_le (by have := World.block_lt_of_cell? _ _ hx207_0; first | rwa [add_block] at this | exact this) GW206.out); have hn207_1 : ad205.block ≠ gb206 := Nat.ne_of_lt (Nat.lt_of_lt_of_le (by have := World.block_lt_of_cell? _ _ hx207_0; first | rwa [add_block] at this | exact this) GW206.out); replace hx207_0 := (HB.out.cell (World.block_lt_of_cell? w _ hx207_0)).trans hx207_0; replace hx207_1 := (HB.out.cell (World.block_lt_of_cell? w _ hx207_1)).trans hx207_1; replace hx207_0 := (cell_far (p := ⟨gb206, 0, none⟩) (by first | (rw [add_block]; exact hn207_0) | (show (Addr.add _ _).block ≠ _; rw [add_block]; exact hn207_0) | exact hn207_0) (.int .i64 ((rd_T47 ((rd_T45 l0 x3_1).f1) x5_3).f0))).trans hx207_0; replace hx207_1 := (cell_far (p := ⟨gb206, 0, none⟩) (by first | (rw [add_block]; exact hn207_0) | (show (Addr.add _ _).block ≠ _; rw [add_block]; exact hn207_0) | exact hn207_0) (.int .i64 ((rd_T47 ((rd_T45 l0 x3_1).f1) x5_3).f0))).trans hx207_1; replace hx207_0 := (cell_far (p := ⟨gb206, 1, none⟩) (by first | (rw [add_block]; exact hn207_1) | (show (Addr.add _ _).block ≠ _; rw [add_block]; exact hn207_1) | exact hn207_1) (.int .i64 ((rd_T47 ((rd_T45 l0 x3_1).f1) x5_3).f1))).trans hx207_0; replace hx207_1 := (cell_far (p := ⟨gb206, 1, none⟩) (by first | (rw [add_block]; exact hn207_1) | (show (Addr.add _ _).block ≠ _; rw [add_block]; exact hn207_1) | exact hn207_1) (.int .i64 ((rd_T47 ((rd_T45 l0 x3_1).f1) x5_3).f1))).trans hx207_1; (try have hy207_0 := fun (n_ : Nat) => (show ((((w48.drewN n_).setCell ⟨gb206, 0, none⟩ (.int .i64 ((rd_T47 ((rd_T45 l0 x3_1).f1) x5_3).f0))).setCell ⟨gb206, 1, none⟩ (.int .i64 ((rd_T47 ((rd_T45 l0 x3_1).f1) x5_3).f1)))).cell? _ = some _ from hx207_0)); (try have hy207_1 := fun (n_ : Nat) => (show ((((w48.drewN n_).setCell ⟨gb206, 0, none⟩ (.int .i64 ((rd_T47 ((rd_T45 l0 x3_1).f1) x5_3).f0))).setCell ⟨gb206, 1, none⟩ (.int .i64 ((rd_T47 ((rd_T45 l0 x3_1).f1) x5_3).f1)))).cell? _ = some _ from hx207_1)); clear hn207_0; clear hn207_1; replace p207 := eq_true p207; replace q207 := eq_true q207)); try go_wp2_with (first | ((with_reducible refine gate_dst (N := 6) rfl ?_); (try (refine gate_guard (by rfl) ?_; dsimp only)); refine box_event ?hg (N := 6) ?hd (cs := #[.int .i64 0, .int .i64 0]) (t := 47) ?hr ?_; (case hd => rfl); (case hg => rfl); (case hr => first | (go_simp; done) | (go_simp; rfl)); intro gb206 hg w48 hbox hb; have n0_ := Aside0.mk (blk_below (g := gb203) (o := .cells #[.int .i64 ((rd_T45 l0 x3_1).f0), .slice (some ad205) ((rd_T45 l0 x3_1).f1).length c202_1] 45 (0, 0)) (by (with_reducible repeat (first | refine blk_drewN ?_ _ | refine blk_drew ?_ | refine blk_alloc ?_ _)); exact BK203.out) hb); have n1_ := Aside0.mk (below_step (by repeat (first | (with_reducible first | exact HB.out | apply below_alloc | apply pw_below_drewN | apply below_drew1 | refine below_set ?_ GE203.out) | exact HB.out)) hb); have n2_ := Aside0.mk (hbox); have n3_ := Aside0.mk ((by rw [hg]; exact (below_size (by repeat (first | (with_reducible first | exact HB.out | apply below_alloc | apply pw_below_drewN | apply below_drew1 | refine below_set ?_ GE203.out) | exact HB.out))) : w.heap.size ≤ gb206)); have n4_ := Aside0.mk ((by rw [hg]; exact (below_size (by repeat (first | (with_reducible first | exact HB.out | apply below_alloc | apply pw_below_drewN | apply below_drew1 | refine below_set ?_ GE203.out) | exact HB.out))) : w.heap.size ≤ gb206)); have n5_ := Aside0.mk ((by rw [hg]; exact Nat.ne_of_lt (blk_lt (g := gb203) (o := .cells #[.int .i64 ((rd_T45 l0 x3_1).f0), .slice (some ad205) ((rd_T45 l0 x3_1).f1).length c202_1] 45 (0, 0)) (by (with_reducible repeat (first | refine blk_drewN ?_ _ | refine blk_drew ?_ | refine blk_alloc ?_ _)); exact BK203.out)) : gb203 ≠ gb206)); have n6_ := Aside0.mk ((by rw [hg]; exact Nat.ne_of_gt (blk_lt (g := gb203) (o := .cells #[.int .i64 ((rd_T45 l0 x3_1).f0), .slice (some ad205) ((rd_T45 l0 x3_1).f1).length c202_1] 45 (0, 0)) (by (with_reducible repeat (first | refine blk_drewN ?_ _ | refine blk_drew ?_ | refine blk_alloc ?_ _)); exact BK203.out)) : gb206 ≠ gb203)); clear BK203; clear HB; have BK203 := n0_; have HB := n1_; have BK206 := n2_; have GW206 := n3_; have GE206 := n4_; have NB203_206 := n5_; have NB206_203 := n6_; clear n0_ n1_ n2_ n3_ n4_ n5_ n6_; clear hb hbox hg; have hnb49 := NB206_203.out; have hnc49 := NB203_206.out; have hcz50_0 : w48.cell? ⟨gb206, 0, none⟩ = some (.int .i64 0) := (blk_cell BK206.out 0).trans rfl; have hcz50_1 : w48.cell? ⟨gb206, 1, none⟩ = some (.int .i64 0) := (blk_cell BK206.out 1).trans rfl; have hfz50_0 := blk_frozen BK206.out 0; have hfz50_1 := blk_frozen BK206.out 1; have hcz51_0 : w48.cell? ⟨gb203, 0, none⟩ = some (.int .i64 ((rd_T45 l0 x3_1).f0)) := (blk_cell BK203.out 0).trans rfl; have hcz51_1 : w48.cell? ⟨gb203, 1, none⟩ = some (.slice (some ad205) ((rd_T45 l0 x3_1).f1).length c202_1) := (blk_cell BK203.out 1).trans rfl; have hfz51_0 := blk_frozen BK203.out 0; have hfz51_1 := blk_frozen BK203.out 1; have p207 : 0 ≤ ((ji38) : Int) := of_decide_eq_true (by first | (with_reducible assumption) | assumption); have q207 : (ji38) < (((rd_T45 l0 x3_1).f1).length : Int) := of_decide_eq_true (by first | (with_reducible assumption) | assumption); obtain ⟨ad207, e207, hx207_0, hx207_1⟩ := at_T47 HR202_1.out (ji38) p207 q207; obtain rfl : ad205 = ad207 := (by injection e207); have hn207_0 : ad205.block ≠ gb206 := Nat.ne_of_lt (Nat.lt_of_lt_of_le (by have := World.block_lt_of_cell? _ _ hx207_0; first | rwa [add_block] at this | exact this) GW206.out); have hn207_1 : ad205.block ≠ gb206 := Nat.ne_of_lt (Nat.lt_of_lt_of_le (by have := World.block_lt_of_cell? _ _ hx207_0; first | rwa [add_block] at this | exact this) GW206.out); replace hx207_0 := (HB.out.cell (World.block_lt_of_cell? w _ hx207_0)).trans hx207_0; replace hx207_1 := (HB.out.cell (World.block_lt_of_cell? w _ hx207_1)).trans hx207_1; replace hx207_0 := (cell_far (p := ⟨gb206, 0, none⟩) (by first | (rw [add_block]; exact hn207_0) | (show (Addr.add _ _).block ≠ _; rw [add_block]; exact hn207_0) | exact hn207_0) (.int .i64 ((rd_T47 ((rd_T45 l0 x3_1).f1) x5_3).f0))).trans hx207_0; replace hx207_1 := (cell_far (p := ⟨gb206, 0, none⟩) (by first | (rw [add_block]; exact hn207_0) | (show (Addr.add _ _).block ≠ _; rw [add_block]; exact hn207_0) | exact hn207_0) (.int .i64 ((rd_T47 ((rd_T45 l0 x3_1).f1) x5_3).f0))).trans hx207_1; replace hx207_0 := (cell_far (p := ⟨gb206, 1, none⟩) (by first | (rw [add_block]; exact hn207_1) | (show (Addr.add _ _).block ≠ _; rw [add_block]; exact hn207_1) | exact hn207_1) (.int .i64 ((rd_T47 ((rd_T45 l0 x3_1).f1) x5_3).f1))).trans hx207_0; replace hx207_1 := (cell_far (p := ⟨gb206, 1, none⟩) (by first | (rw [add_block]; exact hn207_1) | (show (Addr.add _ _).block ≠ _; rw [add_block]; exact hn207_1) | exact hn207_1) (.int .i64 ((rd_T47 ((rd_T45 l0 x3_1).f1) x5_3).f1))).trans hx207_1; (try have hy207_0 := fun (n_ : Nat) => (show ((((w48.drewN n_).setCell ⟨gb206, 0, none⟩ (.int .i64 ((rd_T47 ((rd_T45 l0 x3_1).f1) x5_3).f0))).setCell ⟨gb206, 1, none⟩ (.int .i64 ((rd_T47 ((rd_T45 l0 x3_1).f1) x5_3).f1)))).cell? _ = some _ from hx207_0)); (try have hy207_1 := fun (n_ : Nat) => (show ((((w48.drewN n_).setCell ⟨gb206, 0, none⟩ (.int .i64 ((rd_T47 ((rd_T45 l0 x3_1).f1) x5_3).f0))).setCell ⟨gb206, 1, none⟩ (.int .i64 ((rd_T47 ((rd_T45 l0 x3_1).f1) x5_3).f1)))).cell? _ = some _ from hx207_1)); clear hn207_0; clear hn207_1; replace p207 := eq_true p207; replace q207 := eq_true q207)))
                   go_roundg k3
                   case measure => have := HK1.out; have := HJ3.out; have := HK3.out; omega
                   case rel => exact ⟨(wrap64 (x5_3 + 1)), (by first | rfl | (simp; done) | (simp [*]; done)), H', ⟨by have := HK1.out; have := HJ3.out; have := HK3.out; omega⟩, ⟨by (with_reducible repeat (first | refine blk_drewN ?_ _ | refine blk_drew ?_ | refine blk_alloc ?_ _)); refine blk_far ?_ NB203_206.out _; (with_reducible repeat (first | refine blk_drewN ?_ _ | refine blk_drew ?_ | refine blk_alloc ?_ _)); refine blk_far ?_ NB203_206.out _; (with_reducible repeat (first | refine blk_drewN ?_ _ | refine blk_drew ?_ | refine blk_alloc ?_ _)); exact BK203.out⟩, ⟨by repeat (first | (with_reducible first | exact HB.out | apply below_alloc | apply pw_below_drewN | apply below_drew1 | refine below_set ?_ GE203.out | refine below_set ?_ GE206.out) | exact HB.out)⟩⟩
                 ·rw [if_neg c40] at H
                  exact absurd H (by simp)
                ·rw [if_neg c39] at H
                 exact absurd H (by simp)
               ·rw [if_neg c37] at H
                have c37b0 : decide (0 < x5_3) = false := decide_eq_false c37
                clear c37
                have H' := Aside0.mk H
                clear H
                have hcz52_0 : wr.cell? ⟨gb203, 0, none⟩ = some (.int .i64 ((rd_T45 l0 x3_1).f0)) := (blk_cell BK203.out 0).trans rfl
                have hcz52_1 : wr.cell? ⟨gb203, 1, none⟩ = some (.slice A202_1 ((rd_T45 l0 x3_1).f1).length c202_1) := (blk_cell BK203.out 1).trans rfl
                have hfz52_0 := blk_frozen BK203.out 0
                have hfz52_1 := blk_frozen BK203.out 1
                have p205 : 0 ≤ (x5_3 : Int) := of_decide_eq_true (by first | (with_reducible assumption) | assumption)
                have q205 : x5_3 < (((rd_T45 l0 x3_1).f1).length : Int) := of_decide_eq_true (by first | (with_reducible assumption) | assumption)
                obtain ⟨ad205, e205, hx205_0, hx205_1⟩ := at_T47 HR202_1.out x5_3 p205 q205
                cases e205
                replace hx205_0 := (HB.out.cell (World.block_lt_of_cell? w _ hx205_0)).trans hx205_0
                replace hx205_1 := (HB.out.cell (World.block_lt_of_cell? w _ hx205_1)).trans hx205_1
                replace p205 := eq_true p205
                replace q205 := eq_true q205
                go_wp2_with (first | ((with_reducible refine gate_dst (N := 6) rfl ?_); (try (refine gate_guard (by rfl) ?_; dsimp only)); refine box_event ?hg (N := 6) ?hd (cs := #[.int .i64 0, .int .i64 0]) (t := 47) ?hr ?_; (case hd => rfl); (case hg => rfl); (case hr => first | (go_simp; done) | (go_simp; rfl)); intro gb206 hg w53 hbox hb; have n0_ := Aside0.mk (blk_below (g := gb203) (o := .cells #[.int .i64 ((rd_T45 l0 x3_1).f0), .slice (some ad205) ((rd_T45 l0 x3_1).f1).length c202_1] 45 (0, 0)) (by (with_reducible repeat (first | refine blk_drewN ?_ _ | refine blk_drew ?_ | refine blk_alloc ?_ _)); exact BK203.out) hb); have n1_ := Aside0.mk (below_step (by repeat (first | (with_reducible first | exact HB.out | apply below_alloc | apply pw_below_drewN | apply below_drew1 | refine below_set ?_ GE203.out) | exact HB.out)) hb); have n2_ := Aside0.mk (hbox); have n3_ := Aside0.mk ((by rw [hg]; exact (below_size (by repeat (first | (with_reducible first | exact HB.out | apply below_alloc | apply pw_below_drewN | apply below_drew1 | refine below_set ?_ GE203.out) | exact HB.out))) : w.heap.size ≤ gb206)); have n4_ := Aside0.mk ((by rw [hg]; exact (below_size (by repeat (first | (with_reducible first | exact HB.out | apply below_alloc | apply pw_below_drewN | apply below_drew1 | refine below_set ?_ GE203.out) | exact HB.out))) : w.heap.size ≤ gb206)); have n5_ := Aside0.mk ((by rw [hg]; exact Nat.ne_of_lt (blk_lt (g := gb203) (o := .cells #[.int .i64 ((rd_T45 l0 x3_1).f0), .slice (some ad205) ((rd_T45 l0 x3_1).f1).length c202_1] 45 (0, 0)) (by (with_reducible repeat (first | refine blk_drewN ?_ _ | refine blk_drew ?_ | refine blk_alloc ?_ _)); exact BK203.out)) : gb203 ≠ gb206)); have n6_ := Aside0.mk ((by rw [hg]; exact Nat.ne_of_gt (blk_lt (g := gb203) (o := .cells #[.int .i64 ((rd_T45 l0 x3_1).f0), .slice (some ad205) ((rd_T45 l0 x3_1).f1).length c202_1] 45 (0, 0)) (by (with_reducible repeat (first | refine blk_drewN ?_ _ | refine blk_drew ?_ | refine blk_alloc ?_ _)); exact BK203.out)) : gb206 ≠ gb203)); clear BK203; clear HB; have BK203 := n0_; have HB := n1_; have BK206 := n2_; have GW206 := n3_; have GE206 := n4_; have NB203_206 := n5_; have NB206_203 := n6_; clear n0_ n1_ n2_ n3_ n4_ n5_ n6_; clear hb hbox hg; have hnb54 := NB206_203.out; have hnc54 := NB203_206.out; have hcz55_0 : w53.cell? ⟨gb206, 0, none⟩ = some (.int .i64 0) := (blk_cell BK206.out 0).trans rfl; have hcz55_1 : w53.cell? ⟨gb206, 1, none⟩ = some (.int .i64 0) := (blk_cell BK206.out 1).trans rfl; have hfz55_0 := blk_frozen BK206.out 0; have hfz55_1 := blk_frozen BK206.out 1))
                repeat (go_quiet (first | ((with_reducible refine gate_dst (N := 6) rfl ?_); (try (refine gate_guard (by rfl) ?_; dsimp only)); refine box_event ?hg (N := 6) ?hd (cs := #[.int .i64 0, .int .i64 0]) (t := 47) ?hr ?_; (case hd => rfl); (case hg => rfl); (case hr => first | (go_simp; done) | (go_simp; rfl)); intro gb206 hg w53 hbox hb; have n0_ := Aside0.mk (blk_below (g := gb203) (o := .cells #[.int .i64 ((rd_T45 l0 x3_1).f0), .slice (some ad205) ((rd_T45 l0 x3_1).f1).length c202_1] 45 (0, 0)) (by (with_reducible repeat (first | refine blk_drewN ?_ _ | refine blk_drew ?_ | refine blk_alloc ?_ _)); exact BK203.out) hb); have n1_ := Aside0.mk (below_step (by repeat (first | (with_reducible first | exact HB.out | apply below_alloc | apply pw_below_drewN | apply below_drew1 | refine below_set ?_ GE203.out) | exact HB.out)) hb); have n2_ := Aside0.mk (hbox); have n3_ := Aside0.mk ((by rw [hg]; exact (below_size (by repeat (first | (with_reducible first | exact HB.out | apply below_alloc | apply pw_below_drewN | apply below_drew1 | refine below_set ?_ GE203.out) | exact HB.out))) : w.heap.size ≤ gb206)); have n4_ := Aside0.mk ((by rw [hg]; exact (below_size (by repeat (first | (with_reducible first | exact HB.out | apply below_alloc | apply pw_below_drewN | apply below_drew1 | refine below_set ?_ GE203.out) | exact HB.out))) : w.heap.size ≤ gb206)); have n5_ := Aside0.mk ((by rw [hg]; exact Nat.ne_of_lt (blk_lt (g := gb203) (o := .cells #[.int .i64 ((rd_T45 l0 x3_1).f0), .slice (some ad205) ((rd_T45 l0 x3_1).f1).length c202_1] 45 (0, 0)) (by (with_reducible repeat (first | refine blk_drewN ?_ _ | refine blk_drew ?_ | refine blk_alloc ?_ _)); exact BK203.out)) : gb203 ≠ gb206)); have n6_ := Aside0.mk ((by rw [hg]; exact Nat.ne_of_gt (blk_lt (g := gb203) (o := .cells #[.int .i64 ((rd_T45 l0 x3_1).f0), .slice (some ad205) ((rd_T45 l0 x3_1).f1).length c202_1] 45 (0, 0)) (by (with_reducible repeat (first | refine blk_drewN ?_ _ | refine blk_drew ?_ | refine blk_alloc ?_ _)); exact BK203.out)) : gb206 ≠ gb203)); clear BK203; clear HB; have BK203 := n0_; have HB := n1_; have BK206 := n2_; have GW206 := n3_; have GE206 := n4_; have NB203_206 := n5_; have NB206_203 := n6_; clear n0_ n1_ n2_ n3_ n4_ n5_ n6_; clear hb hbox hg; have hnb54 := NB206_203.out; have hnc54 := NB203_206.out; have hcz55_0 : w53.cell? ⟨gb206, 0, none⟩ = some (.int .i64 0) := (blk_cell BK206.out 0).trans rfl; have hcz55_1 : w53.cell? ⟨gb206, 1, none⟩ = some (.int .i64 0) := (blk_cell BK206.out 1).trans rfl; have hfz55_0 := blk_frozen BK206.out 0; have hfz55_1 := blk_frozen BK206.out 1)); try go_wp2_with (first | ((with_reducible refine gate_dst (N := 6) rfl ?_); (try (refine gate_guard (by rfl) ?_; dsimp only)); refine box_event ?hg (N := 6) ?hd (cs := #[.int .i64 0, .int .i64 0]) (t := 47) ?hr ?_; (case hd => rfl); (case hg => rfl); (case hr => first | (go_simp; done) | (go_simp; rfl)); intro gb206 hg w53 hbox hb; have n0_ := Aside0.mk (blk_below (g := gb203) (o := .cells #[.int .i64 ((rd_T45 l0 x3_1).f0), .slice (some ad205) ((rd_T45 l0 x3_1).f1).length c202_1] 45 (0, 0)) (by (with_reducible repeat (first | refine blk_drewN ?_ _ | refine blk_drew ?_ | refine blk_alloc ?_ _)); exact BK203.out) hb); have n1_ := Aside0.mk (below_step (by repeat (first | (with_reducible first | exact HB.out | apply below_alloc | apply pw_below_drewN | apply below_drew1 | refine below_set ?_ GE203.out) | exact HB.out)) hb); have n2_ := Aside0.mk (hbox); have n3_ := Aside0.mk ((by rw [hg]; exact (below_size (by repeat (first | (with_reducible first | exact HB.out | apply below_alloc | apply pw_below_drewN | apply below_drew1 | refine below_set ?_ GE203.out) | exact HB.out))) : w.heap.size ≤ gb206)); have n4_ := Aside0.mk ((by rw [hg]; exact (below_size (by repeat (first | (with_reducible first | exact HB.out | apply below_alloc | apply pw_below_drewN | apply below_drew1 | refine below_set ?_ GE203.out) | exact HB.out))) : w.heap.size ≤ gb206)); have n5_ := Aside0.mk ((by rw [hg]; exact Nat.ne_of_lt (blk_lt (g := gb203) (o := .cells #[.int .i64 ((rd_T45 l0 x3_1).f0), .slice (some ad205) ((rd_T45 l0 x3_1).f1).length c202_1] 45 (0, 0)) (by (with_reducible repeat (first | refine blk_drewN ?_ _ | refine blk_drew ?_ | refine blk_alloc ?_ _)); exact BK203.out)) : gb203 ≠ gb206)); have n6_ := Aside0.mk ((by rw [hg]; exact Nat.ne_of_gt (blk_lt (g := gb203) (o := .cells #[.int .i64 ((rd_T45 l0 x3_1).f0), .slice (some ad205) ((rd_T45 l0 x3_1).f1).length c202_1] 45 (0, 0)) (by (with_reducible repeat (first | refine blk_drewN ?_ _ | refine blk_drew ?_ | refine blk_alloc ?_ _)); exact BK203.out)) : gb206 ≠ gb203)); clear BK203; clear HB; have BK203 := n0_; have HB := n1_; have BK206 := n2_; have GW206 := n3_; have GE206 := n4_; have NB203_206 := n5_; have NB206_203 := n6_; clear n0_ n1_ n2_ n3_ n4_ n5_ n6_; clear hb hbox hg; have hnb54 := NB206_203.out; have hnc54 := NB203_206.out; have hcz55_0 : w53.cell? ⟨gb206, 0, none⟩ = some (.int .i64 0) := (blk_cell BK206.out 0).trans rfl; have hcz55_1 : w53.cell? ⟨gb206, 1, none⟩ = some (.int .i64 0) := (blk_cell BK206.out 1).trans rfl; have hfz55_0 := blk_frozen BK206.out 0; have hfz55_1 := blk_frozen BK206.out 1)))
                go_roundg k3
                case measure => have := HK1.out; have := HJ3.out; have := HK3.out; omega
                case rel => exact ⟨(wrap64 (x5_3 + 1)), (by first | rfl | (simp; done) | (simp [*]; done)), H', ⟨by have := HK1.out; have := HJ3.out; have := HK3.out; omega⟩, ⟨by (with_reducible repeat (first | refine blk_drewN ?_ _ | refine blk_drew ?_ | refine blk_alloc ?_ _)); refine blk_far ?_ NB203_206.out _; (with_reducible repeat (first | refine blk_drewN ?_ _ | refine blk_drew ?_ | refine blk_alloc ?_ _)); refine blk_far ?_ NB203_206.out _; (with_reducible repeat (first | refine blk_drewN ?_ _ | refine blk_drew ?_ | refine blk_alloc ?_ _)); exact BK203.out⟩, ⟨by repeat (first | (with_reducible first | exact HB.out | apply below_alloc | apply pw_below_drewN | apply below_drew1 | refine below_set ?_ GE203.out | refine below_set ?_ GE206.out) | exact HB.out)⟩⟩
           ·rw [if_neg c21] at H
            exact absurd H (by simp)
          ·rw [if_neg c20] at H
           have c20b0 : decide (x5_3 < (((rd_T45 l0 x3_1).f1).length : Int)) = false := decide_eq_false c20
           clear c20
           have H' := Aside0.mk H
           clear H
           have hcz56_0 : wr.cell? ⟨gb203, 0, none⟩ = some (.int .i64 ((rd_T45 l0 x3_1).f0)) := (blk_cell BK203.out 0).trans rfl
           have hcz56_1 : wr.cell? ⟨gb203, 1, none⟩ = some (.slice A202_1 ((rd_T45 l0 x3_1).f1).length c202_1) := (blk_cell BK203.out 1).trans rfl
           have hfz56_0 := blk_frozen BK203.out 0
           have hfz56_1 := blk_frozen BK203.out 1
           go_wp2
           repeat (go_quiet (fail); try go_wp2)
           go_roundg k3
           case measure => have := HK1.out; have := HJ3.out; have := HK3.out; omega
           case rel => exact ⟨(wrap64 (x3_1 + 1)), (by first | rfl | (simp; done) | (simp [*]; done)), H', ⟨by have := HK1.out; have := HJ3.out; have := HK3.out; omega⟩, ⟨by repeat (first | (with_reducible first | exact HB.out | apply below_alloc | apply pw_below_drewN | apply below_drew1 | refine below_set ?_ GE203.out) | exact HB.out)⟩⟩
    ·rw [if_neg c3] at H
     exact absurd H (by simp)
   ·rw [if_neg c2] at H
    have c2b0 : decide (x3_1 < (l0.length : Int)) = false := decide_eq_false c2
    clear c2
    replace H := Option.bind_eq_some_iff.mp H
    obtain ⟨t201, A570, H⟩ := H
    replace H : (some (decide (t201 ≤ 64))) = some r := H
    have A57 := Aside0.mk A570
    clear A570
    obtain rfl := Option.some.inj H
    go_wp2_with (first | (go_at_call 25; (with_reducible refine (slotmeshref26_Many.calls k1 _ _ l0 t201 _ ?side1 ?side2 A57.out).mono ?_); (case side1 => repeat (first | exact (Kd.C_below HR0.out HB.out) | (with_reducible refine Kd.C_alloc ?_ _) | (with_reducible refine Kd.C_drewN ?_ _) | (with_reducible refine Kd.C_drew ?_))); (case side2 => exact HC0.out); rintro e w' ⟨rfl, ⟨nd, rfl⟩⟩; (try first | exact ⟨rfl, _, World.drewN_drewN _ _ _⟩ | exact ⟨rfl, _, Eq.trans (World.drewN_drewN _ _ _) (congrArg (World.drewN _) (Nat.add_assoc _ _ _))⟩)))
    repeat (go_quiet (first | (go_at_call 25; (with_reducible refine (slotmeshref26_Many.calls k1 _ _ l0 t201 _ ?side1 ?side2 A57.out).mono ?_); (case side1 => repeat (first | exact (Kd.C_below HR0.out HB.out) | (with_reducible refine Kd.C_alloc ?_ _) | (with_reducible refine Kd.C_drewN ?_ _) | (with_reducible refine Kd.C_drew ?_))); (case side2 => exact HC0.out); rintro e w' ⟨rfl, ⟨nd, rfl⟩⟩; (try first | exact ⟨rfl, _, World.drewN_drewN _ _ _⟩ | exact ⟨rfl, _, Eq.trans (World.drewN_drewN _ _ _) (congrArg (World.drewN _) (Nat.add_assoc _ _ _))⟩))); try go_wp2_with (first | (go_at_call 25; (with_reducible refine (slotmeshref26_Many.calls k1 _ _ l0 t201 _ ?side1 ?side2 A57.out).mono ?_); (case side1 => repeat (first | exact (Kd.C_below HR0.out HB.out) | (with_reducible refine Kd.C_alloc ?_ _) | (with_reducible refine Kd.C_drewN ?_ _) | (with_reducible refine Kd.C_drew ?_))); (case side2 => exact HC0.out); rintro e w' ⟨rfl, ⟨nd, rfl⟩⟩; (try first | exact ⟨rfl, _, World.drewN_drewN _ _ _⟩ | exact ⟨rfl, _, Eq.trans (World.drewN_drewN _ _ _) (congrArg (World.drewN _) (Nat.add_assoc _ _ _))⟩))))
    go_ret
    exact ⟨by first | rfl | (simp [errW_none, errW_some] <;> rfl) | (simp [*, errW_none, errW_some] <;> rfl), by repeat (first | (with_reducible first | exact HB.out | apply below_alloc | apply pw_below_drewN | apply below_drew1) | exact HB.out)⟩

end Go.Proofs.Ytjibgfihfbdcaaa.PSeen
