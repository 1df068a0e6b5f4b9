-- A text of this claim, written by this session's program. -- SLIM
import Derived.Test.YtjibgfihfbdcaaaPSeenx0
import Derived.Test.YtjibgfihfbdcaaaPSeenx9
namespace Go.Proofs.Ytjibgfihfbdcaaa.PSeen
open Go.RowKit Go.Proofs.YtjibgfihfbdcaaaW.PrintWords Go.Proofs.YtjibgfihfbdcaaaW.PrintLast Go.Proofs.YtjibgfihfbdcaaaW.PrintMore
attribute [local go_sem] max2_int min2_int max_two min_two max_three min_three max_four min_four   -- for this text's walks alone
set_option linter.unusedVariables false
set_option linter.unusedSimpArgs false

/-! ### slotmeshref26_Of: function 23 -/
def slotmeshref26_Of.l0 : Nat → List (S45) → Int → Int → Option ((List (S47)))
 | 0, _, _, _ => none
 | k + 1, x0, x1, x5 => if x5 < (x0.length : Int) then (if 0 ≤ x5 then (if ((rd_T45 x0 x5).f0) = x1 then (some ((rd_T45 x0 x5).f1)) else (slotmeshref26_Of.l0 k x0 x1 (wrap64 (x5 + 1)))) else (none)) else (some ([] : List (S47)))
def slotmeshref26_Of.f (k : Nat) (l0 : List (S45)) (a1 : Int) : Option ((List (S47))) := slotmeshref26_Of.l0 k l0 a1 0
theorem slotmeshref26_Of.mono_l : ∀ k, (∀ y0 y1 y2, LeO (slotmeshref26_Of.l0 k y0 y1 y2) (slotmeshref26_Of.l0 (k + 1) y0 y1 y2))
 | 0 => fun _ _ _ r h => by simp [slotmeshref26_Of.l0] at h
 | k + 1 => by
  have ih0 := slotmeshref26_Of.mono_l k
  ·intro y0 y1 y2
   unfold slotmeshref26_Of.l0
   repeat' first
   | (with_reducible exact ih0 _ _ _)
   | (with_reducible exact LeO.refl _)
   | (with_reducible exact LeO.none _)
   | (with_reducible refine LeO.ite ?_ ?_)
   | (with_reducible refine LeO.bind ?_ (fun _ => ?_))
   | exact ih0 _ _ _
   | exact LeO.none _
   | refine LeO.ite ?_ ?_
   | refine LeO.bind ?_ (fun _ => ?_)
theorem slotmeshref26_Of.mono : ∀ a0 a1 k, LeO (slotmeshref26_Of.f k a0 a1) (slotmeshref26_Of.f (k + 1) a0 a1) := by
 intro a0 a1 k
 have ih0 := slotmeshref26_Of.mono_l k
 unfold slotmeshref26_Of.f
 repeat' first
   | (with_reducible exact ih0 _ _ _)
   | (with_reducible exact LeO.refl _)
   | (with_reducible exact LeO.none _)
   | (with_reducible refine LeO.ite ?_ ?_)
   | (with_reducible refine LeO.bind ?_ (fun _ => ?_))
   | exact ih0 _ _ _
   | exact LeO.none _
   | refine LeO.ite ?_ ?_
   | refine LeO.bind ?_ (fun _ => ?_)
set_option maxHeartbeats 8000000 in
set_option maxRecDepth 100000 in
theorem slotmeshref26_Of.calls (k : Nat) (P0_ : Nat → Prop) (A0 : Option Addr) (c0 : Nat) (l0 : List (S45)) (a1 : Int) (r : List (S47)) (w : World) (hs0 : Kd.V k45 45 w w.heap.size (fun k_ => P0_ k_) (.slice A0 l0.length c0) l0) (h : slotmeshref26_Of.f k l0 a1 = some r) :
  Calls Try.prog 23 #[.slice A0 l0.length c0, .int .i64 a1] w fun e w' => ∃ v0_ : Value, e = .returned (v0_) ∧ Kd.V k47 47 w' w.heap.size (fun k_ => (P0_ k_ ∨ w.heap.size ≤ k_)) v0_ r ∧ Below w.heap.size w w' := by
 have HO0 := Aside0.mk (show Kd.V k45 45 w w.heap.size (fun k_ => (P0_ k_ ∨ w.heap.size ≤ k_)) (.slice A0 l0.length c0) l0 from Kd.V_mono hs0 (fun k_ hk => .inl hk))
 have HB := Aside0.mk (Below.refl w.heap.size w)
 have H : (slotmeshref26_Of.l0 k l0 a1 0) = some r := h
 clear h
 have H' := Aside0.mk H
 clear H
 go_enter Try.func23, Try.ntmps23
 go_wp2
 go_loopg [5] k (fun kq v5 w' => ∃ (x5_1 : Int), v5 = .int .i64 x5_1 ∧ Aside0 (slotmeshref26_Of.l0 kq l0 a1 x5_1 = some r) ∧ Aside0 (kq ≤ k) ∧ Aside0 (Kd.V k45 45 w' w.heap.size (fun k_ => (P0_ k_ ∨ w.heap.size ≤ k_)) (.slice A0 l0.length c0) l0) ∧ Aside0 (Below w.heap.size w w'))
 case atStart => exact ⟨(0), (by first | rfl | (simp; done) | (simp [*]; done)), H', ⟨Nat.le_refl _⟩, ⟨by (with_reducible repeat (first | apply Kd.V_alloc | apply Kd.V_drewN | apply Kd.V_drew)); exact HO0.out⟩, ⟨by repeat (first | (with_reducible first | exact HB.out | apply below_alloc | apply pw_below_drewN | apply below_drew1) | exact HB.out)⟩⟩
 case round =>
  clear H'
  try clear c2
  try clear p2
  obtain ⟨x5_1, rfl, HA, HK1, HO_0, HB⟩ := hrel
  cases gk with
  | zero => exact absurd HA.out (by simp [slotmeshref26_Of.l0])
  | succ k1 =>
   have H := HA.out
   clear HA
   simp only [slotmeshref26_Of.l0] at H
   by_cases c3 : x5_1 < (l0.length : Int)
   ·rw [if_pos c3] at H
    have c3b0 : decide (x5_1 < (l0.length : Int)) = true := decide_eq_true c3
    clear c3
    by_cases c4 : 0 ≤ x5_1
    ·rw [if_pos c4] at H
     have c4b0 : decide (0 ≤ x5_1) = true := decide_eq_true c4
     clear c4
     by_cases c5 : ((rd_T45 l0 x5_1).f0) = a1
     ·rw [if_pos c5] at H
      have c5b0 : (((rd_T45 l0 x5_1).f0) == a1) = true := beq_iff_eq.mpr c5
      have c5b1 : (((rd_T45 l0 x5_1).f0) != a1) = false := bne_eq_false_iff_eq.mpr c5
      clear c5
      obtain rfl := Option.some.inj H
      have p208 : 0 ≤ (x5_1 : Int) := of_decide_eq_true (by first | (with_reducible assumption) | assumption)
      have q208 : x5_1 < (l0.length : Int) := of_decide_eq_true (by first | (with_reducible assumption) | assumption)
      obtain ⟨ad208, A208_1, c208_1, e208, hx208_0, hx208_1, hl208_1, hi208_1⟩ := at_T45 (Kd.V_reads' HO_0.out).2.2 x5_1 p208 q208
      cases e208
      obtain ⟨ce208, hce208, hMe208, hcc208⟩ := Kd.V_get HO_0.out z45 x5_1 p208 (by first | exact q208 | exact of_decide_eq_true (by first | (with_reducible assumption) | assumption) | (have e_ := (Kd.V_reads' HO_0.out).1; omega))
      obtain ⟨ua208_1, uc208_1, rfl, ul208_1, ge208_1⟩ := k45_openF hMe208
      have hv208_1 := hcc208 1 _ rfl
      rw [add_field _ _ 1 (by omega)] at hv208_1
      replace hv208_1 := Option.some.inj (hv208_1.symm.trans hx208_1)
      injection hv208_1 with hva_ hvn_ hvc_
      rw [hva_] at ge208_1
      rw [hvc_] at ul208_1
      have HL208_1 := Aside0.mk (show Kd.V k47 47 _ w.heap.size _ _ ((rd_T45 l0 x5_1).f1) from Kd.V_mk ul208_1 ge208_1)
      clear hva_ hvn_ hvc_ ge208_1 ul208_1
      clear hcc208 hce208
      have HR208_1 := Aside0.mk hi208_1
      have HC208_1 := Aside0.mk hl208_1
      clear hi208_1 hl208_1
      replace p208 := eq_true p208
      replace q208 := eq_true q208
      have p209 : 0 ≤ (x5_1 : Int) := of_decide_eq_true (by first | (with_reducible assumption) | assumption)
      have q209 : x5_1 < (l0.length : Int) := of_decide_eq_true (by first | (with_reducible assumption) | assumption)
      obtain ⟨ad209, A209_1, c209_1, e209, hx209_0, hx209_1, hl209_1, hi209_1⟩ := at_T45 (Kd.V_reads' HO_0.out).2.2 x5_1 p209 q209
      obtain rfl : ad208 = ad209 := (by injection e209)
      obtain ⟨ce209, hce209, hMe209, hcc209⟩ := Kd.V_get HO_0.out z45 x5_1 p209 (by first | exact q209 | exact of_decide_eq_true (by first | (with_reducible assumption) | assumption) | (have e_ := (Kd.V_reads' HO_0.out).1; omega))
      obtain ⟨ua209_1, uc209_1, rfl, ul209_1, ge209_1⟩ := k45_openF hMe209
      have hv209_1 := hcc209 1 _ rfl
      rw [add_field _ _ 1 (by omega)] at hv209_1
      replace hv209_1 := Option.some.inj (hv209_1.symm.trans hx209_1)
      injection hv209_1 with hva_ hvn_ hvc_
      rw [hva_] at ge209_1
      rw [hvc_] at ul209_1
      have HL209_1 := Aside0.mk (show Kd.V k47 47 _ w.heap.size _ _ ((rd_T45 l0 x5_1).f1) from Kd.V_mk ul209_1 ge209_1)
      clear hva_ hvn_ hvc_ ge209_1 ul209_1
      clear hcc209 hce209
      have HR209_1 := Aside0.mk hi209_1
      have HC209_1 := Aside0.mk hl209_1
      clear hi209_1 hl209_1
      replace p209 := eq_true p209
      replace q209 := eq_true q209
      have ea_ := Option.some.inj (hx208_1.symm.trans hx209_1)
      injection ea_ with ea_ en_ ec_
      subst ea_
      subst ec_
      clear en_
      go_wp2
      go_ret
      exact ⟨_, by first | rfl | (simp [errW_none, errW_some] <;> rfl) | (simp [*, errW_none, errW_some] <;> rfl), by (with_reducible repeat (first | apply Kd.V_alloc | apply Kd.V_drewN | apply Kd.V_drew)); exact HL209_1.out, by repeat (first | (with_reducible first | exact HB.out | apply below_alloc | apply pw_below_drewN | apply below_drew1) | exact HB.out)⟩
     ·rw [if_neg c5] at H
      have c5b0 : (((rd_T45 l0 x5_1).f0) == a1) = false := beq_eq_false_iff_ne.mpr c5
      have c5b1 : (((rd_T45 l0 x5_1).f0) != a1) = true := bne_iff_ne.mpr c5
      have H' := Aside0.mk H
      clear H
      have p208 : 0 ≤ (x5_1 : Int) := of_decide_eq_true (by first | (with_reducible assumption) | assumption)
      have q208 : x5_1 < (l0.length : Int) := of_decide_eq_true (by first | (with_reducible assumption) | assumption)
      obtain ⟨ad208, A208_1, c208_1, e208, hx208_0, hx208_1, hl208_1, hi208_1⟩ := at_T45 (Kd.V_reads' HO_0.out).2.2 x5_1 p208 q208
      cases e208
      obtain ⟨ce208, hce208, hMe208, hcc208⟩ := Kd.V_get HO_0.out z45 x5_1 p208 (by first | exact q208 | exact of_decide_eq_true (by first | (with_reducible assumption) | assumption) | (have e_ := (Kd.V_reads' HO_0.out).1; omega))
      obtain ⟨ua208_1, uc208_1, rfl, ul208_1, ge208_1⟩ := k45_openF hMe208
      have hv208_1 := hcc208 1 _ rfl
      rw [add_field _ _ 1 (by omega)] at hv208_1
      replace hv208_1 := Option.some.inj (hv208_1.symm.trans hx208_1)
      injection hv208_1 with hva_ hvn_ hvc_
      rw [hva_] at ge208_1
      rw [hvc_] at ul208_1
      have HL208_1 := Aside0.mk (show Kd.V k47 47 _ w.heap.size _ _ ((rd_T45 l0 x5_1).f1) from Kd.V_mk ul208_1 ge208_1)
      clear hva_ hvn_ hvc_ ge208_1 ul208_1
      clear hcc208 hce208
      have HR208_1 := Aside0.mk hi208_1
      have HC208_1 := Aside0.mk hl208_1
      clear hi208_1 hl208_1
      replace p208 := eq_true p208
      replace q208 := eq_true q208
      go_wp2
      go_roundg k1
      case measure => have := HK1.out; omega
      case rel => exact ⟨(wrap64 (x5_1 + 1)), (by first | rfl | (simp; done) | (simp [*]; done)), H', ⟨by have := HK1.out; omega⟩, ⟨by (with_reducible repeat (first | apply Kd.V_alloc | apply Kd.V_drewN | apply Kd.V_drew)); exact HO_0.out⟩, ⟨by repeat (first | (with_reducible first | exact HB.out | apply below_alloc | apply pw_below_drewN | apply below_drew1) | exact HB.out)⟩⟩
    ·rw [if_neg c4] at H
     exact absurd H (by simp)
   ·rw [if_neg c3] at H
    have c3b0 : decide (x5_1 < (l0.length : Int)) = false := decide_eq_false c3
    clear c3
    obtain rfl := Option.some.inj H
    go_wp2
    go_ret
    exact ⟨.slice none 0 0, by first | rfl | (simp [errW_none, errW_some] <;> rfl) | (simp [*, errW_none, errW_some] <;> rfl), Kd.V_mono (Kd.R_V (by first | exact Kd.R_nil k47 47 _ w.heap.size (fun k_ => w.heap.size ≤ k_) | exact Kd.N_nil _ _ _ _ _ | exact Kd.V_nil _ _ _ _ _ | exact Kd.Q_nil _ _ _ _ _ | exact Kd.S_nil _ _ _ _ _)) (fun k_ hk => by first | exact ⟨(.inr (hk.1)), hk.2⟩ | exact (.inr (hk))), by repeat (first | (with_reducible first | exact HB.out | apply below_alloc | apply pw_below_drewN | apply below_drew1) | exact HB.out)⟩

/-! ### slotmeshref26_in: function 41 -/
def slotmeshref26_in.l0 : Nat → List (S47) → Int → Int → Option (Bool)
 | 0, _, _, _ => none
 | k + 1, x0, x1, x5 => if x5 < (x0.length : Int) then (if 0 ≤ x5 then (if x1 ≥ ((rd_T47 x0 x5).f0) then (if x1 ≤ ((rd_T47 x0 x5).f1) then (some true) else (slotmeshref26_in.l0 k x0 x1 (wrap64 (x5 + 1)))) else (slotmeshref26_in.l0 k x0 x1 (wrap64 (x5 + 1)))) else (none)) else (some false)
def slotmeshref26_in.f (k : Nat) (l0 : List (S47)) (a1 : Int) : Option (Bool) := slotmeshref26_in.l0 k l0 a1 0
theorem slotmeshref26_in.mono_l : ∀ k, (∀ y0 y1 y2, LeO (slotmeshref26_in.l0 k y0 y1 y2) (slotmeshref26_in.l0 (k + 1) y0 y1 y2))
 | 0 => fun _ _ _ r h => by simp [slotmeshref26_in.l0] at h
 | k + 1 => by
  have ih0 := slotmeshref26_in.mono_l k
  ·intro y0 y1 y2
   unfold slotmeshref26_in.l0
   repeat' first
   | (with_reducible exact ih0 _ _ _)
   | (with_reducible exact LeO.refl _)
   | (with_reducible exact LeO.none _)
   | (with_reducible refine LeO.ite ?_ ?_)
   | (with_reducible refine LeO.bind ?_ (fun _ => ?_))
   | exact ih0 _ _ _
   | exact LeO.none _
   | refine LeO.ite ?_ ?_
   | refine LeO.bind ?_ (fun _ => ?_)
theorem slotmeshref26_in.mono : ∀ a0 a1 k, LeO (slotmeshref26_in.f k a0 a1) (slotmeshref26_in.f (k + 1) a0 a1) := by
 intro a0 a1 k
 have ih0 := slotmeshref26_in.mono_l k
 unfold slotmeshref26_in.f
 repeat' first
   | (with_reducible exact ih0 _ _ _)
   | (with_reducible exact LeO.refl _)
   | (with_reducible exact LeO.none _)
   | (with_reducible refine LeO.ite ?_ ?_)
   | (with_reducible refine LeO.bind ?_ (fun _ => ?_))
   | exact ih0 _ _ _
   | exact LeO.none _
   | refine LeO.ite ?_ ?_
   | refine LeO.bind ?_ (fun _ => ?_)
set_option maxHeartbeats 8000000 in
set_option maxRecDepth 100000 in
theorem slotmeshref26_in.calls (k : Nat) (A0 : Option Addr) (c0 : Nat) (l0 : List (S47)) (a1 : Int) (r : Bool) (w : World) (hr0 : Kd.C k47 w A0 l0.length l0) (hc0 : l0.length ≤ c0) (h : slotmeshref26_in.f k l0 a1 = some r) :
  Calls Try.prog 41 #[.slice A0 l0.length c0, .int .i64 a1] w fun e w' => e = .returned (.bool r) ∧ Drawn0 w w' := by
 have HR0 := Aside0.mk hr0
 have HC0 := Aside0.mk hc0
 clear hr0 hc0
 have H : (slotmeshref26_in.l0 k l0 a1 0) = some r := h
 clear h
 have H' := Aside0.mk H
 clear H
 go_enter Try.func41, Try.ntmps41
 go_wp2
 go_loopg [5] k (fun kq v5 w' => ∃ (x5_1 : Int), v5 = .int .i64 x5_1 ∧ Aside0 (slotmeshref26_in.l0 kq l0 a1 x5_1 = some r) ∧ Aside0 (kq ≤ k) ∧ Drawn0 w w')
 case atStart => exact ⟨(0), (by first | rfl | (simp; done) | (simp [*]; done)), H', ⟨Nat.le_refl _⟩, by repeat (first | exact Drawn0.refl _ | apply Drawn0.step)⟩
 case round =>
  clear H'
  try clear p2
  obtain ⟨x5_1, rfl, HA, HK1, ⟨m1, rfl⟩⟩ := hrel
  cases gk with
  | zero => exact absurd HA.out (by simp [slotmeshref26_in.l0])
  | succ k1 =>
   have H := HA.out
   clear HA
   simp only [slotmeshref26_in.l0] at H
   by_cases c3 : x5_1 < (l0.length : Int)
   ·rw [if_pos c3] at H
    have c3b0 : decide (x5_1 < (l0.length : Int)) = true := decide_eq_true c3
    clear c3
    by_cases c4 : 0 ≤ x5_1
    ·rw [if_pos c4] at H
     have c4b0 : decide (0 ≤ x5_1) = true := decide_eq_true c4
     clear c4
     by_cases c5 : a1 ≥ ((rd_T47 l0 x5_1).f0)
     ·rw [if_pos c5] at H
      have c5b0 : decide (((rd_T47 l0 x5_1).f0) ≤ a1) = true := decide_eq_true c5
      clear c5
      by_cases c6 : a1 ≤ ((rd_T47 l0 x5_1).f1)
      ·rw [if_pos c6] at H
       have c6b0 : decide (a1 ≤ ((rd_T47 l0 x5_1).f1)) = true := decide_eq_true c6
       clear c6
       obtain rfl := Option.some.inj H
       have p210 : 0 ≤ (x5_1 : Int) := of_decide_eq_true (by first | (with_reducible assumption) | assumption)
       have q210 : x5_1 < (l0.length : Int) := of_decide_eq_true (by first | (with_reducible assumption) | assumption)
       obtain ⟨ad210, e210, hx210_0, hx210_1⟩ := at_T47 HR0.out x5_1 p210 q210
       cases e210
       replace p210 := eq_true p210
       replace q210 := eq_true q210
       have p211 : 0 ≤ (x5_1 : Int) := of_decide_eq_true (by first | (with_reducible assumption) | assumption)
       have q211 : x5_1 < (l0.length : Int) := of_decide_eq_true (by first | (with_reducible assumption) | assumption)
       obtain ⟨ad211, e211, hx211_0, hx211_1⟩ := at_T47 HR0.out x5_1 p211 q211
       obtain rfl : ad210 = ad211 := (by injection e211)
       replace p211 := eq_true p211
       replace q211 := eq_true q211
       go_wp2
       go_ret
       exact ⟨by first | rfl | (simp; done) | (simp [*]; done), by repeat (first | exact Drawn0.refl _ | apply Drawn0.step)⟩
      ·rw [if_neg c6] at H
       have c6b0 : decide (a1 ≤ ((rd_T47 l0 x5_1).f1)) = false := decide_eq_false c6
       clear c6
       have H' := Aside0.mk H
       clear H
       have p210 : 0 ≤ (x5_1 : Int) := of_decide_eq_true (by first | (with_reducible assumption) | assumption)
       have q210 : x5_1 < (l0.length : Int) := of_decide_eq_true (by first | (with_reducible assumption) | assumption)
       obtain ⟨ad210, e210, hx210_0, hx210_1⟩ := at_T47 HR0.out x5_1 p210 q210
       cases e210
       replace p210 := eq_true p210
       replace q210 := eq_true q210
       have p211 : 0 ≤ (x5_1 : Int) := of_decide_eq_true (by first | (with_reducible assumption) | assumption)
       have q211 : x5_1 < (l0.length : Int) := of_decide_eq_true (by first | (with_reducible assumption) | assumption)
       obtain ⟨ad211, e211, hx211_0, hx211_1⟩ := at_T47 HR0.out x5_1 p211 q211
       obtain rfl : ad210 = ad211 := (by injection e211)
       replace p211 := eq_true p211
       replace q211 := eq_true q211
       go_wp2
       go_roundg k1
       case measure => have := HK1.out; omega
       case rel => exact ⟨(wrap64 (x5_1 + 1)), (by first | rfl | (simp; done) | (simp [*]; done)), H', ⟨by have := HK1.out; omega⟩, by repeat (first | exact Drawn0.refl _ | apply Drawn0.step)⟩
     ·rw [if_neg c5] at H
      have c5b0 : decide (((rd_T47 l0 x5_1).f0) ≤ a1) = false := decide_eq_false c5
      clear c5
      have H' := Aside0.mk H
      clear H
      have p210 : 0 ≤ (x5_1 : Int) := of_decide_eq_true (by first | (with_reducible assumption) | assumption)
      have q210 : x5_1 < (l0.length : Int) := of_decide_eq_true (by first | (with_reducible assumption) | assumption)
      obtain ⟨ad210, e210, hx210_0, hx210_1⟩ := at_T47 HR0.out x5_1 p210 q210
      cases e210
      replace p210 := eq_true p210
      replace q210 := eq_true q210
      go_wp2
      go_roundg k1
      case measure => have := HK1.out; omega
      case rel => exact ⟨(wrap64 (x5_1 + 1)), (by first | rfl | (simp; done) | (simp [*]; done)), H', ⟨by have := HK1.out; omega⟩, by repeat (first | exact Drawn0.refl _ | apply Drawn0.step)⟩
    ·rw [if_neg c4] at H
     exact absurd H (by simp)
   ·rw [if_neg c3] at H
    have c3b0 : decide (x5_1 < (l0.length : Int)) = false := decide_eq_false c3
    clear c3
    obtain rfl := Option.some.inj H
    go_wp2
    go_ret
    exact ⟨by first | rfl | (simp; done) | (simp [*]; done), by repeat (first | exact Drawn0.refl _ | apply Drawn0.step)⟩

/-! ### slotmeshref26_Has: function 16 -/
def slotmeshref26_Has.f (k : Nat) (l0 : List (S45)) (a1 : Int) (a2 : Int) : Option (Bool) := (slotmeshref26_Valid.f k l0).bind fun t212 => (if t212 = true then ((slotmeshref26_Of.f k l0 a1).bind fun t213 => ((slotmeshref26_in.f k t213 a2).bind fun t216 => (some t216))) else (some false))
theorem slotmeshref26_Has.mono : ∀ a0 a1 a2 k, LeO (slotmeshref26_Has.f k a0 a1 a2) (slotmeshref26_Has.f (k + 1) a0 a1 a2) := by
 intro a0 a1 a2 k
 unfold slotmeshref26_Has.f
 repeat' first
   | (with_reducible exact slotmeshref26_Of.mono _ _ _)
   | (with_reducible exact slotmeshref26_Valid.mono _ _)
   | (with_reducible exact slotmeshref26_in.mono _ _ _)
   | (with_reducible exact LeO.refl _)
   | (with_reducible exact LeO.none _)
   | (with_reducible refine LeO.ite ?_ ?_)
   | (with_reducible refine LeO.bind ?_ (fun _ => ?_))
   | exact slotmeshref26_Of.mono _ _ _
   | exact slotmeshref26_Valid.mono _ _
   | exact slotmeshref26_in.mono _ _ _
   | exact LeO.none _
   | refine LeO.ite ?_ ?_
   | refine LeO.bind ?_ (fun _ => ?_)
set_option maxHeartbeats 8000000 in
set_option maxRecDepth 100000 in
theorem slotmeshref26_Has.calls (k : Nat) (A0 : Option Addr) (c0 : Nat) (l0 : List (S45)) (a1 : Int) (a2 : Int) (r : Bool) (w : World) (hr0 : Kd.C k45 w A0 l0.length l0) (hc0 : l0.length ≤ c0) (h : slotmeshref26_Has.f k l0 a1 a2 = some r) :
  Calls Try.prog 16 #[.slice A0 l0.length c0, .int .i64 a1, .int .i64 a2] w fun e w' => e = .returned (.bool r) ∧ Below w.heap.size w w' := by
 have HR0 := Aside0.mk hr0
 have HC0 := Aside0.mk hc0
 clear hr0 hc0
 have HB := Aside0.mk (Below.refl w.heap.size w)
 have H : ((slotmeshref26_Valid.f k l0).bind fun t212 => (if t212 = true then ((slotmeshref26_Of.f k l0 a1).bind fun t213 => ((slotmeshref26_in.f k t213 a2).bind fun t216 => (some t216))) else (some false))) = some r := h
 clear h
 replace H := Option.bind_eq_some_iff.mp H
 obtain ⟨t212, A40, H⟩ := H
 replace H : (if t212 = true then ((slotmeshref26_Of.f k l0 a1).bind fun t213 => ((slotmeshref26_in.f k t213 a2).bind fun t216 => (some t216))) else (some false)) = some r := H
 have A4 := Aside0.mk A40
 clear A40
 by_cases c5 : t212 = true
 ·subst c5
  have H1 : ((slotmeshref26_Of.f k l0 a1).bind fun t213 => ((slotmeshref26_in.f k t213 a2).bind fun t216 => (some t216))) = some r := by rw [if_pos rfl] at H; exact H
  clear H
  have H := H1
  clear H1
  replace H := Option.bind_eq_some_iff.mp H
  obtain ⟨t213, A60, H⟩ := H
  replace H : ((slotmeshref26_in.f k t213 a2).bind fun t216 => (some t216)) = some r := H
  have A6 := Aside0.mk A60
  clear A60
  replace H := Option.bind_eq_some_iff.mp H
  obtain ⟨t216, A70, H⟩ := H
  replace H : (some t216) = some r := H
  have A7 := Aside0.mk A70
  clear A70
  obtain rfl := Option.some.inj H
  go_enter Try.func16, Try.ntmps16
  go_wp2_with (first | ((with_reducible refine gate_callee (f := 14) rfl ?_); refine goesL_ (some 8) rfl rfl Try.func14 (by kernel_rfl) rfl #[.slice A0 l0.length c0] rfl (by (try simp only [List.map_toArray, List.map_cons, List.map_nil]); first | done | rfl | (simp only [List.length_drop, List.length_take]; rfl)) ?_; (with_reducible refine (slotmeshref26_Valid.calls k _ _ l0 true _ ?side1 ?side2 A4.out).mono ?_); (case side1 => repeat (first | exact HR0.out | (with_reducible refine Kd.C_alloc ?_ _) | (with_reducible refine Kd.C_drewN ?_ _) | (with_reducible refine Kd.C_drew ?_))); (case side2 => exact HC0.out); rintro e w8 ⟨rfl, hb⟩; refine ⟨_, rfl, ?_⟩; have n0_ := Aside0.mk (below_step (by repeat (first | (with_reducible first | exact HB.out | apply below_alloc | apply pw_below_drewN | apply below_drew1) | exact HB.out)) hb); clear HB; have HB := n0_; clear n0_; (try clear hb); (try clear hb2); (try clear hk); (try clear hi)) | (go_at_call 23; (with_reducible refine (slotmeshref26_Of.calls k (fun k_ => k_ < w.heap.size) _ _ l0 a1 t213 _ ?side1 A6.out).mono ?_); (case side1 => exact Kd.V_mk HC0.out (Kd.F_below (Kd.C_F k45_heap HR0.out) (by repeat (first | (with_reducible first | exact HB.out | apply below_alloc | apply pw_below_drewN | apply below_drew1) | exact HB.out)))); rintro e w9 ⟨v214, rfl, ho0, hb⟩; have n0_ := Aside0.mk (Kd.V_lower (Kd.V_mono (ok' := fun k_ => True) ho0 (fun k_ hk_ => trivial)) (below_size (by repeat (first | (with_reducible first | exact HB.out | apply below_alloc | apply pw_below_drewN | apply below_drew1) | exact HB.out)))); have n1_ := Aside0.mk (below_step (by repeat (first | (with_reducible first | exact HB.out | apply below_alloc | apply pw_below_drewN | apply below_drew1) | exact HB.out)) hb); clear HB; have HO215 := n0_; have HB := n1_; clear n0_ n1_; (try clear hb); (try clear hb2); (try clear hk); (try clear hi); (try clear ho0); obtain ⟨Ao10, co10, eo10⟩ := Kd.V_slice HO215.out; subst eo10) | (go_at_call 41; (with_reducible refine (slotmeshref26_in.calls k _ _ t213 a2 t216 _ ?side1 ?side2 A7.out).mono ?_); (case side1 => repeat (first | exact (Kd.V_reads' HO215.out).2.2 | (with_reducible refine Kd.C_alloc ?_ _) | (with_reducible refine Kd.C_drewN ?_ _) | (with_reducible refine Kd.C_drew ?_))); (case side2 => exact (Kd.V_reads' HO215.out).2.1); rintro e w' ⟨rfl, ⟨nd, rfl⟩⟩))
  go_ret
  exact ⟨by first | rfl | (simp [errW_none, errW_some] <;> rfl) | (simp [*, errW_none, errW_some] <;> rfl), by repeat (first | (with_reducible first | exact HB.out | apply below_alloc | apply pw_below_drewN | apply below_drew1) | exact HB.out)⟩
 ·replace c5 := Bool.eq_false_iff.mpr c5
  subst c5
  have H1 : (some false) = some r := by rw [if_neg (show ¬ (false = true) by decide)] at H; exact H
  clear H
  have H := H1
  clear H1
  obtain rfl := Option.some.inj H
  go_enter Try.func16, Try.ntmps16
  go_wp2_with (first | ((with_reducible refine gate_callee (f := 14) rfl ?_); refine goesL_ (some 8) rfl rfl Try.func14 (by kernel_rfl) rfl #[.slice A0 l0.length c0] rfl (by (try simp only [List.map_toArray, List.map_cons, List.map_nil]); first | done | rfl | (simp only [List.length_drop, List.length_take]; rfl)) ?_; (with_reducible refine (slotmeshref26_Valid.calls k _ _ l0 false _ ?side1 ?side2 A4.out).mono ?_); (case side1 => repeat (first | exact HR0.out | (with_reducible refine Kd.C_alloc ?_ _) | (with_reducible refine Kd.C_drewN ?_ _) | (with_reducible refine Kd.C_drew ?_))); (case side2 => exact HC0.out); rintro e w11 ⟨rfl, hb⟩; refine ⟨_, rfl, ?_⟩; have n0_ := Aside0.mk (below_step (by repeat (first | (with_reducible first | exact HB.out | apply below_alloc | apply pw_below_drewN | apply below_drew1) | exact HB.out)) hb); clear HB; have HB := n0_; clear n0_; (try clear hb); (try clear hb2); (try clear hk); (try clear hi)))
  go_ret
  exact ⟨by first | rfl | (simp [errW_none, errW_some] <;> rfl) | (simp [*, errW_none, errW_some] <;> rfl), by repeat (first | (with_reducible first | exact HB.out | apply below_alloc | apply pw_below_drewN | apply below_drew1) | exact HB.out)⟩

/-! ### slotmeshref26_with: function 37 -/
def slotmeshref26_with.l0 : Nat → List (S47) → Int → List (S47) → List (S47) → Int → Int → Int → Option ((List (S47)))
 | 0, _, _, _, _, _, _, _ => none
 | k + 1, x0, x1, x6, x7, x8, x218000, x218001 => if x8 < (x0.length : Int) then (if 0 ≤ x8 then (if ((rd_T47 x0 x8).f1) = (wrap64 (x1 - 1)) then (slotmeshref26_with.l0 k x0 x1 x6 x7 (wrap64 (x8 + 1)) ((rd_T47 x0 x8).f0) x218001) else (if ((rd_T47 x0 x8).f0) = (wrap64 (x1 + 1)) then (slotmeshref26_with.l0 k x0 x1 x6 x7 (wrap64 (x8 + 1)) x218000 ((rd_T47 x0 x8).f1)) else (if ((rd_T47 x0 x8).f1) < x1 then (if x6.length < 8796093022208 then (slotmeshref26_with.l0 k x0 x1 (x6 ++ [(⟨(rd_T47 x0 x8).f0, (rd_T47 x0 x8).f1⟩ : S47)]) x7 (wrap64 (x8 + 1)) x218000 x218001) else (none)) else (if x7.length < 8796093022208 then (slotmeshref26_with.l0 k x0 x1 x6 (x7 ++ [(⟨(rd_T47 x0 x8).f0, (rd_T47 x0 x8).f1⟩ : S47)]) (wrap64 (x8 + 1)) x218000 x218001) else (none))))) else (none)) else (if x6.length < 8796093022208 then ((some (x6 ++ [(⟨x218000, x218001⟩ : S47)] : List (S47))).bind fun y218 => (if y218.length + x7.length < 8796093022208 then (some (y218 ++ x7)) else (none))) else (none))
def slotmeshref26_with.f (k : Nat) (l0 : List (S47)) (a1 : Int) : Option ((List (S47))) := slotmeshref26_with.l0 k l0 a1 ([] : List (S47)) ([] : List (S47)) 0 a1 a1
theorem slotmeshref26_with.mono_l : ∀ k, (∀ y0 y1 y2 y3 y4 y5 y6, LeO (slotmeshref26_with.l0 k y0 y1 y2 y3 y4 y5 y6) (slotmeshref26_with.l0 (k + 1) y0 y1 y2 y3 y4 y5 y6))
 | 0 => fun _ _ _ _ _ _ _ r h => by simp [slotmeshref26_with.l0] at h
 | k + 1 => by
  have ih0 := slotmeshref26_with.mono_l k
  ·intro y0 y1 y2 y3 y4 y5 y6
   unfold slotmeshref26_with.l0
   repeat' first
   | (with_reducible exact ih0 _ _ _ _ _ _ _)
   | (with_reducible exact LeO.refl _)
   | (with_reducible exact LeO.none _)
   | (with_reducible refine LeO.ite ?_ ?_)
   | (with_reducible refine LeO.bind ?_ (fun _ => ?_))
   | exact ih0 _ _ _ _ _ _ _
   | exact LeO.none _
   | refine LeO.ite ?_ ?_
   | refine LeO.bind ?_ (fun _ => ?_)
theorem slotmeshref26_with.mono : ∀ a0 a1 k, LeO (slotmeshref26_with.f k a0 a1) (slotmeshref26_with.f (k + 1) a0 a1) := by
 intro a0 a1 k
 have ih0 := slotmeshref26_with.mono_l k
 unfold slotmeshref26_with.f
 repeat' first
   | (with_reducible exact ih0 _ _ _ _ _ _ _)
   | (with_reducible exact LeO.refl _)
   | (with_reducible exact LeO.none _)
   | (with_reducible refine LeO.ite ?_ ?_)
   | (with_reducible refine LeO.bind ?_ (fun _ => ?_))
   | exact ih0 _ _ _ _ _ _ _
   | exact LeO.none _
   | refine LeO.ite ?_ ?_
   | refine LeO.bind ?_ (fun _ => ?_)
set_option maxHeartbeats 8000000 in
set_option maxRecDepth 100000 in
theorem slotmeshref26_with.calls (k : Nat) (A0 : Option Addr) (c0 : Nat) (l0 : List (S47)) (a1 : Int) (r : List (S47)) (w : World) (hr0 : Kd.C k47 w A0 l0.length l0) (hc0 : l0.length ≤ c0) (h : slotmeshref26_with.f k l0 a1 = some r) :
  Calls Try.prog 37 #[.slice A0 l0.length c0, .int .i64 a1] w fun e w' => ∃ v0_ : Value, e = .returned (v0_) ∧ Kd.R k47 47 w' w.heap.size (fun _ => True) v0_ r ∧ Below w.heap.size w w' := by
 have hu47 := Try.underlying47
 have HR0 := Aside0.mk hr0
 have HC0 := Aside0.mk hc0
 clear hr0 hc0
 have HB := Aside0.mk (Below.refl w.heap.size w)
 have H : (slotmeshref26_with.l0 k l0 a1 ([] : List (S47)) ([] : List (S47)) 0 a1 a1) = some r := h
 clear h
 have H' := Aside0.mk H
 clear H
 go_enter Try.func37, Try.ntmps37
 go_wp2_with (first | ((with_reducible refine gate_dst (N := 5) rfl ?_); refine box_event ?hg (N := 5) ?hd (cs := #[.int .i64 0, .int .i64 0]) (t := 47) ?hr ?_; (case hd => rfl); (case hg => rfl); (case hr => first | (go_simp; done) | (go_simp; rfl)); intro gb217 hg w3 hbox hb; have n0_ := Aside0.mk (below_step (by repeat (first | (with_reducible first | exact HB.out | apply below_alloc | apply pw_below_drewN | apply below_drew1) | exact HB.out)) hb); have n1_ := Aside0.mk (hbox); have n2_ := Aside0.mk ((by rw [hg]; exact (below_size (by repeat (first | (with_reducible first | exact HB.out | apply below_alloc | apply pw_below_drewN | apply below_drew1) | exact HB.out))) : w.heap.size ≤ gb217)); have n3_ := Aside0.mk ((by rw [hg]; exact (below_size (by repeat (first | (with_reducible first | exact HB.out | apply below_alloc | apply pw_below_drewN | apply below_drew1) | exact HB.out))) : w.heap.size ≤ gb217)); clear HB; have HB := n0_; have BK217 := n1_; have GW217 := n2_; have GE217 := n3_; clear n0_ n1_ n2_ n3_; clear hb hbox hg; have hcz4_0 : w3.cell? ⟨gb217, 0, none⟩ = some (.int .i64 0) := (blk_cell BK217.out 0).trans rfl; have hcz4_1 : w3.cell? ⟨gb217, 1, none⟩ = some (.int .i64 0) := (blk_cell BK217.out 1).trans rfl; have hfz4_0 := blk_frozen BK217.out 0; have hfz4_1 := blk_frozen BK217.out 1))
 go_loopg [6, 7, 8] k (fun kq v6 v7 v8 w' => ∃ (x6_1 : List (S47)) (x7_1 : List (S47)) (x8_1 : Int) (x218000_1 : Int) (x218001_1 : Int), v8 = .int .i64 x8_1 ∧ Aside0 (slotmeshref26_with.l0 kq l0 a1 x6_1 x7_1 x8_1 x218000_1 x218001_1 = some r) ∧ Aside0 (kq ≤ k) ∧ Aside0 (Kd.R k47 47 w' w.heap.size (fun k_ => some k_ ≠ (v7 : Value).ownBlock ∧ k_ ≠ gb217) v6 x6_1) ∧ Aside0 (Kd.R k47 47 w' w.heap.size (fun k_ => some k_ ≠ (v6 : Value).ownBlock ∧ k_ ≠ gb217) v7 x7_1) ∧ Aside0 (w'.heap[gb217]? = some (.cells #[.int .i64 x218000_1, .int .i64 x218001_1] 47 (0, 0))) ∧ Aside0 (Below w.heap.size w w'))
 case atStart => exact ⟨(([] : List (S47))), (([] : List (S47))), (0), (a1), (a1), (by first | rfl | (simp; done) | (simp [*]; done)), H', ⟨Nat.le_refl _⟩, ⟨by first | exact Kd.R_nil _ _ _ _ _ | exact Kd.N_nil _ _ _ _ _ | exact Kd.V_nil _ _ _ _ _ | exact Kd.Q_nil _ _ _ _ _ | exact Kd.S_nil _ _ _ _ _⟩, ⟨by first | exact Kd.R_nil _ _ _ _ _ | exact Kd.N_nil _ _ _ _ _ | exact Kd.V_nil _ _ _ _ _ | exact Kd.Q_nil _ _ _ _ _ | exact Kd.S_nil _ _ _ _ _⟩, ⟨by (with_reducible repeat (first | refine blk_drewN ?_ _ | refine blk_drew ?_ | refine blk_alloc ?_ _)); refine blk_put (cs := #[.int .i64 a1, .int .i64 0]) ?_ 1 _ rfl; (with_reducible repeat (first | refine blk_drewN ?_ _ | refine blk_drew ?_ | refine blk_alloc ?_ _)); refine blk_put (cs := #[.int .i64 0, .int .i64 0]) ?_ 0 _ rfl; (with_reducible repeat (first | refine blk_drewN ?_ _ | refine blk_drew ?_ | refine blk_alloc ?_ _)); exact BK217.out⟩, ⟨by repeat (first | (with_reducible first | exact HB.out | apply below_alloc | apply pw_below_drewN | apply below_drew1 | refine below_set ?_ GE217.out) | exact HB.out)⟩⟩
 case round =>
  clear H'
  try clear p2
  try clear c3
  try clear hcz4_0
  try clear hcz4_1
  try clear hfz4_0
  try clear hfz4_1
  obtain ⟨x6_1, x7_1, x8_1, x218000_1, x218001_1, rfl, HA, HK1, HO_6, HO_7, BK217, HB⟩ := hrel
  cases gk with
  | zero => exact absurd HA.out (by simp [slotmeshref26_with.l0])
  | succ k1 =>
   have H := HA.out
   clear HA
   simp only [slotmeshref26_with.l0] at H
   by_cases c5 : x8_1 < (l0.length : Int)
   ·rw [if_pos c5] at H
    have c5b0 : decide (x8_1 < (l0.length : Int)) = true := decide_eq_true c5
    clear c5
    by_cases c6 : 0 ≤ x8_1
    ·rw [if_pos c6] at H
     have c6b0 : decide (0 ≤ x8_1) = true := decide_eq_true c6
     clear c6
     by_cases c7 : ((rd_T47 l0 x8_1).f1) = (wrap64 (a1 - 1))
     ·rw [if_pos c7] at H
      have c7b0 : (((rd_T47 l0 x8_1).f1) == (wrap64 (a1 - 1))) = true := beq_iff_eq.mpr c7
      have c7b1 : (((rd_T47 l0 x8_1).f1) != (wrap64 (a1 - 1))) = false := bne_eq_false_iff_eq.mpr c7
      clear c7
      have H' := Aside0.mk H
      clear H
      have p224 : 0 ≤ (x8_1 : Int) := of_decide_eq_true (by first | (with_reducible assumption) | assumption)
      have q224 : x8_1 < (l0.length : Int) := of_decide_eq_true (by first | (with_reducible assumption) | assumption)
      obtain ⟨ad224, e224, hx224_0, hx224_1⟩ := at_T47 HR0.out x8_1 p224 q224
      cases e224
      replace hx224_0 := (HB.out.cell (World.block_lt_of_cell? w _ hx224_0)).trans hx224_0
      replace hx224_1 := (HB.out.cell (World.block_lt_of_cell? w _ hx224_1)).trans hx224_1
      replace p224 := eq_true p224
      replace q224 := eq_true q224
      have p225 : 0 ≤ (x8_1 : Int) := of_decide_eq_true (by first | (with_reducible assumption) | assumption)
      have q225 : x8_1 < (l0.length : Int) := of_decide_eq_true (by first | (with_reducible assumption) | assumption)
      obtain ⟨ad225, e225, hx225_0, hx225_1⟩ := at_T47 HR0.out x8_1 p225 q225
      obtain rfl : ad224 = ad225 := (by injection e225)
      replace hx225_0 := (HB.out.cell (World.block_lt_of_cell? w _ hx225_0)).trans hx225_0
      replace hx225_1 := (HB.out.cell (World.block_lt_of_cell? w _ hx225_1)).trans hx225_1
      replace p225 := eq_true p225
      replace q225 := eq_true q225
      have hcz8_0 : wr.cell? ⟨gb217, 0, none⟩ = some (.int .i64 x218000_1) := (blk_cell BK217.out 0).trans rfl
      have hcz8_1 : wr.cell? ⟨gb217, 1, none⟩ = some (.int .i64 x218001_1) := (blk_cell BK217.out 1).trans rfl
      have hfz8_0 := blk_frozen BK217.out 0
      have hfz8_1 := blk_frozen BK217.out 1
      go_wp2
      go_roundg k1
      case measure => have := HK1.out; omega
      case rel => exact ⟨(x6_1), (x7_1), (wrap64 (x8_1 + 1)), ((rd_T47 l0 x8_1).f0), (x218001_1), (by first | rfl | (simp; done) | (simp [*]; done)), H', ⟨by have := HK1.out; omega⟩, ⟨by (with_reducible repeat (first | apply Kd.R_alloc | apply Kd.R_drewN | apply Kd.R_drew)); exact Kd.R_mono (Kd.R_far (p := ⟨gb217, 0, none⟩) (Kd.R_mono HO_6.out (fun k_ hk => (⟨hk, hk.2⟩ : _ ∧ k_ ≠ gb217))) (fun _ hk => hk.2) (.int .i64 ((rd_T47 l0 x8_1).f0))) (fun _ hk => ⟨hk.1.1, hk.1.2⟩)⟩, ⟨by (with_reducible repeat (first | apply Kd.R_alloc | apply Kd.R_drewN | apply Kd.R_drew)); exact Kd.R_mono (Kd.R_far (p := ⟨gb217, 0, none⟩) (Kd.R_mono HO_7.out (fun k_ hk => (⟨hk, hk.2⟩ : _ ∧ k_ ≠ gb217))) (fun _ hk => hk.2) (.int .i64 ((rd_T47 l0 x8_1).f0))) (fun _ hk => ⟨hk.1.1, hk.1.2⟩)⟩, ⟨by (with_reducible repeat (first | refine blk_drewN ?_ _ | refine blk_drew ?_ | refine blk_alloc ?_ _)); refine blk_put (cs := #[.int .i64 x218000_1, .int .i64 x218001_1]) ?_ 0 _ rfl; (with_reducible repeat (first | refine blk_drewN ?_ _ | refine blk_drew ?_ | refine blk_alloc ?_ _)); exact BK217.out⟩, ⟨by repeat (first | (with_reducible first | exact HB.out | apply below_alloc | apply pw_below_drewN | apply below_drew1 | refine below_set ?_ GE217.out) | exact HB.out)⟩⟩
     ·rw [if_neg c7] at H
      have c7b0 : (((rd_T47 l0 x8_1).f1) == (wrap64 (a1 - 1))) = false := beq_eq_false_iff_ne.mpr c7
      have c7b1 : (((rd_T47 l0 x8_1).f1) != (wrap64 (a1 - 1))) = true := bne_iff_ne.mpr c7
      by_cases c9 : ((rd_T47 l0 x8_1).f0) = (wrap64 (a1 + 1))
      ·rw [if_pos c9] at H
       have c9b0 : (((rd_T47 l0 x8_1).f0) == (wrap64 (a1 + 1))) = true := beq_iff_eq.mpr c9
       have c9b1 : (((rd_T47 l0 x8_1).f0) != (wrap64 (a1 + 1))) = false := bne_eq_false_iff_eq.mpr c9
       clear c9
       have H' := Aside0.mk H
       clear H
       have p224 : 0 ≤ (x8_1 : Int) := of_decide_eq_true (by first | (with_reducible assumption) | assumption)
       have q224 : x8_1 < (l0.length : Int) := of_decide_eq_true (by first | (with_reducible assumption) | assumption)
       obtain ⟨ad224, e224, hx224_0, hx224_1⟩ := at_T47 HR0.out x8_1 p224 q224
       cases e224
       replace hx224_0 := (HB.out.cell (World.block_lt_of_cell? w _ hx224_0)).trans hx224_0
       replace hx224_1 := (HB.out.cell (World.block_lt_of_cell? w _ hx224_1)).trans hx224_1
       replace p224 := eq_true p224
       replace q224 := eq_true q224
       have p226 : 0 ≤ (x8_1 : Int) := of_decide_eq_true (by first | (with_reducible assumption) | assumption)
       have q226 : x8_1 < (l0.length : Int) := of_decide_eq_true (by first | (with_reducible assumption) | assumption)
       obtain ⟨ad226, e226, hx226_0, hx226_1⟩ := at_T47 HR0.out x8_1 p226 q226
       obtain rfl : ad224 = ad226 := (by injection e226)
       replace hx226_0 := (HB.out.cell (World.block_lt_of_cell? w _ hx226_0)).trans hx226_0
       replace hx226_1 := (HB.out.cell (World.block_lt_of_cell? w _ hx226_1)).trans hx226_1
       replace p226 := eq_true p226
       replace q226 := eq_true q226
       have p227 : 0 ≤ (x8_1 : Int) := of_decide_eq_true (by first | (with_reducible assumption) | assumption)
       have q227 : x8_1 < (l0.length : Int) := of_decide_eq_true (by first | (with_reducible assumption) | assumption)
       obtain ⟨ad227, e227, hx227_0, hx227_1⟩ := at_T47 HR0.out x8_1 p227 q227
       obtain rfl : ad224 = ad227 := (by injection e227)
       replace hx227_0 := (HB.out.cell (World.block_lt_of_cell? w _ hx227_0)).trans hx227_0
       replace hx227_1 := (HB.out.cell (World.block_lt_of_cell? w _ hx227_1)).trans hx227_1
       replace p227 := eq_true p227
       replace q227 := eq_true q227
       have hcz10_0 : wr.cell? ⟨gb217, 0, none⟩ = some (.int .i64 x218000_1) := (blk_cell BK217.out 0).trans rfl
       have hcz10_1 : wr.cell? ⟨gb217, 1, none⟩ = some (.int .i64 x218001_1) := (blk_cell BK217.out 1).trans rfl
       have hfz10_0 := blk_frozen BK217.out 0
       have hfz10_1 := blk_frozen BK217.out 1
       go_wp2
       go_roundg k1
       case measure => have := HK1.out; omega
       case rel => exact ⟨(x6_1), (x7_1), (wrap64 (x8_1 + 1)), (x218000_1), ((rd_T47 l0 x8_1).f1), (by first | rfl | (simp; done) | (simp [*]; done)), H', ⟨by have := HK1.out; omega⟩, ⟨by (with_reducible repeat (first | apply Kd.R_alloc | apply Kd.R_drewN | apply Kd.R_drew)); exact Kd.R_mono (Kd.R_far (p := ⟨gb217, 1, none⟩) (Kd.R_mono HO_6.out (fun k_ hk => (⟨hk, hk.2⟩ : _ ∧ k_ ≠ gb217))) (fun _ hk => hk.2) (.int .i64 ((rd_T47 l0 x8_1).f1))) (fun _ hk => ⟨hk.1.1, hk.1.2⟩)⟩, ⟨by (with_reducible repeat (first | apply Kd.R_alloc | apply Kd.R_drewN | apply Kd.R_drew)); exact Kd.R_mono (Kd.R_far (p := ⟨gb217, 1, none⟩) (Kd.R_mono HO_7.out (fun k_ hk => (⟨hk, hk.2⟩ : _ ∧ k_ ≠ gb217))) (fun _ hk => hk.2) (.int .i64 ((rd_T47 l0 x8_1).f1))) (fun _ hk => ⟨hk.1.1, hk.1.2⟩)⟩, ⟨by (with_reducible repeat (first | refine blk_drewN ?_ _ | refine blk_drew ?_ | refine blk_alloc ?_ _)); refine blk_put (cs := #[.int .i64 x218000_1, .int .i64 x218001_1]) ?_ 1 _ rfl; (with_reducible repeat (first | refine blk_drewN ?_ _ | refine blk_drew ?_ | refine blk_alloc ?_ _)); exact BK217.out⟩, ⟨by repeat (first | (with_reducible first | exact HB.out | apply below_alloc | apply pw_below_drewN | apply below_drew1 | refine below_set ?_ GE217.out) | exact HB.out)⟩⟩
      ·rw [if_neg c9] at H
       have c9b0 : (((rd_T47 l0 x8_1).f0) == (wrap64 (a1 + 1))) = false := beq_eq_false_iff_ne.mpr c9
       have c9b1 : (((rd_T47 l0 x8_1).f0) != (wrap64 (a1 + 1))) = true := bne_iff_ne.mpr c9
       by_cases c11 : ((rd_T47 l0 x8_1).f1) < a1
       ·rw [if_pos c11] at H
        have c11b0 : decide (((rd_T47 l0 x8_1).f1) < a1) = true := decide_eq_true c11
        clear c11
        by_cases c12 : x6_1.length < 8796093022208
        ·rw [if_pos c12] at H
         have LMc12 := Aside0.mk c12
         clear c12
         obtain ⟨y230, hy230⟩ : ∃ y_ : List (S47), y_ = (x6_1 ++ [(⟨(rd_T47 l0 x8_1).f0, (rd_T47 l0 x8_1).f1⟩ : S47)]) := ⟨_, rfl⟩
         replace H : (slotmeshref26_with.l0 k1 l0 a1 y230 x7_1 (wrap64 (x8_1 + 1)) x218000_1 x218001_1) = some r := by first | (rw [hy230]; with_reducible exact H) | (have H2_ := (Option.bind_some _ _).symm.trans H; rw [hy230]; with_reducible exact H2_) | (have H2_ := (Option.bind_some _ _).symm.trans H; with_reducible exact H2_) | with_reducible exact H | (rw [hy230]; exact H) | exact H
         have Ny230 := Aside0.mk hy230
         clear hy230
         have H' := Aside0.mk H
         clear H
         have p224 : 0 ≤ (x8_1 : Int) := of_decide_eq_true (by first | (with_reducible assumption) | assumption)
         have q224 : x8_1 < (l0.length : Int) := of_decide_eq_true (by first | (with_reducible assumption) | assumption)
         obtain ⟨ad224, e224, hx224_0, hx224_1⟩ := at_T47 HR0.out x8_1 p224 q224
         cases e224
         replace hx224_0 := (HB.out.cell (World.block_lt_of_cell? w _ hx224_0)).trans hx224_0
         replace hx224_1 := (HB.out.cell (World.block_lt_of_cell? w _ hx224_1)).trans hx224_1
         replace p224 := eq_true p224
         replace q224 := eq_true q224
         have p226 : 0 ≤ (x8_1 : Int) := of_decide_eq_true (by first | (with_reducible assumption) | assumption)
         have q226 : x8_1 < (l0.length : Int) := of_decide_eq_true (by first | (with_reducible assumption) | assumption)
         obtain ⟨ad226, e226, hx226_0, hx226_1⟩ := at_T47 HR0.out x8_1 p226 q226
         obtain rfl : ad224 = ad226 := (by injection e226)
         replace hx226_0 := (HB.out.cell (World.block_lt_of_cell? w _ hx226_0)).trans hx226_0
         replace hx226_1 := (HB.out.cell (World.block_lt_of_cell? w _ hx226_1)).trans hx226_1
         replace p226 := eq_true p226
         replace q226 := eq_true q226
         have p228 : 0 ≤ (x8_1 : Int) := of_decide_eq_true (by first | (with_reducible assumption) | assumption)
         have q228 : x8_1 < (l0.length : Int) := of_decide_eq_true (by first | (with_reducible assumption) | assumption)
         obtain ⟨ad228, e228, hx228_0, hx228_1⟩ := at_T47 HR0.out x8_1 p228 q228
         obtain rfl : ad224 = ad228 := (by injection e228)
         replace hx228_0 := (HB.out.cell (World.block_lt_of_cell? w _ hx228_0)).trans hx228_0
         replace hx228_1 := (HB.out.cell (World.block_lt_of_cell? w _ hx228_1)).trans hx228_1
         replace p228 := eq_true p228
         replace q228 := eq_true q228
         have p229 : 0 ≤ (x8_1 : Int) := of_decide_eq_true (by first | (with_reducible assumption) | assumption)
         have q229 : x8_1 < (l0.length : Int) := of_decide_eq_true (by first | (with_reducible assumption) | assumption)
         obtain ⟨ad229, e229, hx229_0, hx229_1⟩ := at_T47 HR0.out x8_1 p229 q229
         obtain rfl : ad224 = ad229 := (by injection e229)
         replace hx229_0 := (HB.out.cell (World.block_lt_of_cell? w _ hx229_0)).trans hx229_0
         replace hx229_1 := (HB.out.cell (World.block_lt_of_cell? w _ hx229_1)).trans hx229_1
         replace p229 := eq_true p229
         replace q229 := eq_true q229
         go_wp2_with (first | ((with_reducible refine gate_builtin (b := .append) (xs := #[.tmp 53, .tmp 58]) rfl ?_); at_builtin; refine Kd.R_append k47 (w0 := w) w.heap.size rfl (.tmp 53) (.tmp 58) 43 47 (.agg #[(.int .i64 0), (.int .i64 0)]) 16 rfl Try.underlying43 info47 rfl (by decide) (by omega) u6 x6_1 (⟨(rd_T47 l0 x8_1).f0, (rd_T47 l0 x8_1).f1⟩ : S47) [.int .i64 ((rd_T47 l0 x8_1).f0), .int .i64 ((rd_T47 l0 x8_1).f1)] (fun k_ => some k_ ≠ (u7 : Value).ownBlock ∧ k_ ≠ gb217) (fun _ => False) rfl rfl ?aP (fun _ hk => hk.elim) ?aF ?aO ?aB ?aS ?aL ?_; (case aP => exact k47_mkM _ _ _ (⟨(rd_T47 l0 x8_1).f0, (rd_T47 l0 x8_1).f1⟩ : S47)); (case aB => exact (by repeat (first | (with_reducible first | exact HB.out | apply below_alloc | apply pw_below_drewN | apply below_drew1 | refine below_set ?_ GE217.out) | exact HB.out))); (case aF => exact (fun k_ hk => ⟨Kd.fresh' (Kd.R_lt (by (with_reducible repeat (first | apply Kd.R_alloc | apply Kd.R_drewN | apply Kd.R_drew)); exact HO_7.out)) k_ hk, Kd.freshB (g := gb217) (o := .cells #[.int .i64 x218000_1, .int .i64 x218001_1] 47 (0, 0)) (by (with_reducible repeat (first | refine blk_drewN ?_ _ | refine blk_drew ?_ | refine blk_alloc ?_ _)); exact BK217.out) k_ hk⟩)); (case aO => exact (by (with_reducible repeat (first | apply Kd.R_alloc | apply Kd.R_drewN | apply Kd.R_drew)); exact HO_6.out)); (case aS => exact (below_size (by repeat (first | (with_reducible first | exact HB.out | apply below_alloc | apply pw_below_drewN | apply below_drew1 | refine below_set ?_ GE217.out) | exact HB.out)))); (case aL => have := LMc12.out; omega); intro v231 w13 ho hb hg hat; rw [← Ny230.out] at ho; have n0_ := Aside0.mk (Kd.R_after (ok := (fun k_ => k_ ≠ gb217)) (by (with_reducible repeat (first | apply Kd.R_alloc | apply Kd.R_drewN | apply Kd.R_drew)); exact Kd.R_mono HO_7.out (fun _ hk => ⟨hk.2, hk.1⟩)) hg hat); have n1_ := Aside0.mk (blk_grown (g := gb217) (o := .cells #[.int .i64 x218000_1, .int .i64 x218001_1] 47 (0, 0)) (by (with_reducible repeat (first | refine blk_drewN ?_ _ | refine blk_drew ?_ | refine blk_alloc ?_ _)); exact BK217.out) hg (Kd.R_away HO_6.out (fun _ hk => hk.2))); have n2_ := Aside0.mk (hb); have n3_ := Aside0.mk (ho); clear HO_7; clear BK217; clear HB; clear HO_6; have HO_7 := n0_; have BK217 := n1_; have HB := n2_; have HO232 := n3_; clear n0_ n1_ n2_ n3_; clear ho hb hg hat))
         go_roundg k1
         case measure => have := HK1.out; omega
         case rel => exact ⟨(y230), (x7_1), (wrap64 (x8_1 + 1)), (x218000_1), (x218001_1), (by first | rfl | (simp; done) | (simp [*]; done)), H', ⟨by have := HK1.out; omega⟩, ⟨by (with_reducible repeat (first | apply Kd.R_alloc | apply Kd.R_drewN | apply Kd.R_drew)); exact HO232.out⟩, ⟨by (with_reducible repeat (first | apply Kd.R_alloc | apply Kd.R_drewN | apply Kd.R_drew)); exact Kd.R_mono HO_7.out (fun _ hk => ⟨hk.2, hk.1⟩)⟩, ⟨by (with_reducible repeat (first | refine blk_drewN ?_ _ | refine blk_drew ?_ | refine blk_alloc ?_ _)); exact BK217.out⟩, ⟨by repeat (first | (with_reducible first | exact HB.out | apply below_alloc | apply pw_below_drewN | apply below_drew1 | refine below_set ?_ GE217.out) | exact HB.out)⟩⟩
        ·rw [if_neg c12] at H
         exact absurd H (by simp)
       ·rw [if_neg c11] at H
        have c11b0 : decide (((rd_T47 l0 x8_1).f1) < a1) = false := decide_eq_false c11
        clear c11
        by_cases c14 : x7_1.length < 8796093022208
        ·rw [if_pos c14] at H
         have LMc14 := Aside0.mk c14
         clear c14
         obtain ⟨y234, hy234⟩ : ∃ y_ : List (S47), y_ = (x7_1 ++ [(⟨(rd_T47 l0 x8_1).f0, (rd_T47 l0 x8_1).f1⟩ : S47)]) := ⟨_, rfl⟩
         replace H : (slotmeshref26_with.l0 k1 l0 a1 x6_1 y234 (wrap64 (x8_1 + 1)) x218000_1 x218001_1) = some r := by first | (rw [hy234]; with_reducible exact H) | (have H2_ := (Option.bind_some _ _).symm.trans H; rw [hy234]; with_reducible exact H2_) | (have H2_ := (Option.bind_some _ _).symm.trans H; with_reducible exact H2_) | with_reducible exact H | (rw [hy234]; exact H) | exact H
         have Ny234 := Aside0.mk hy234
         clear hy234
         have H' := Aside0.mk H
         clear H
         have p224 : 0 ≤ (x8_1 : Int) := of_decide_eq_true (by first | (with_reducible assumption) | assumption)
         have q224 : x8_1 < (l0.length : Int) := of_decide_eq_true (by first | (with_reducible assumption) | assumption)
         obtain ⟨ad224, e224, hx224_0, hx224_1⟩ := at_T47 HR0.out x8_1 p224 q224
         cases e224
         replace hx224_0 := (HB.out.cell (World.block_lt_of_cell? w _ hx224_0)).trans hx224_0
         replace hx224_1 := (HB.out.cell (World.block_lt_of_cell? w _ hx224_1)).trans hx224_1
         replace p224 := eq_true p224
         replace q224 := eq_true q224
         have p226 : 0 ≤ (x8_1 : Int) := of_decide_eq_true (by first | (with_reducible assumption) | assumption)
         have q226 : x8_1 < (l0.length : Int) := of_decide_eq_true (by first | (with_reducible assumption) | assumption)
         obtain ⟨ad226, e226, hx226_0, hx226_1⟩ := at_T47 HR0.out x8_1 p226 q226
         obtain rfl : ad224 = ad226 := (by injection e226)
         replace hx226_0 := (HB.out.cell (World.block_lt_of_cell? w _ hx226_0)).trans hx226_0
         replace hx226_1 := (HB.out.cell (World.block_lt_of_cell? w _ hx226_1)).trans hx226_1
         replace p226 := eq_true p226
         replace q226 := eq_true q226
         have p228 : 0 ≤ (x8_1 : Int) := of_decide_eq_true (by first | (with_reducible assumption) | assumption)
         have q228 : x8_1 < (l0.length : Int) := of_decide_eq_true (by first | (with_reducible assumption) | assumption)
         obtain ⟨ad228, e228, hx228_0, hx228_1⟩ := at_T47 HR0.out x8_1 p228 q228
         obtain rfl : ad224 = ad228 := (by injection e228)
         replace hx228_0 := (HB.out.cell (World.block_lt_of_cell? w _ hx228_0)).trans hx228_0
         replace hx228_1 := (HB.out.cell (World.block_lt_of_cell? w _ hx228_1)).trans hx228_1
         replace p228 := eq_true p228
         replace q228 := eq_true q228
         have p233 : 0 ≤ (x8_1 : Int) := of_decide_eq_true (by first | (with_reducible assumption) | assumption)
         have q233 : x8_1 < (l0.length : Int) := of_decide_eq_true (by first | (with_reducible assumption) | assumption)
         obtain ⟨ad233, e233, hx233_0, hx233_1⟩ := at_T47 HR0.out x8_1 p233 q233
         obtain rfl : ad224 = ad233 := (by injection e233)
         replace hx233_0 := (HB.out.cell (World.block_lt_of_cell? w _ hx233_0)).trans hx233_0
         replace hx233_1 := (HB.out.cell (World.block_lt_of_cell? w _ hx233_1)).trans hx233_1
         replace p233 := eq_true p233
         replace q233 := eq_true q233
         go_wp2_with (first | ((with_reducible refine gate_builtin (b := .append) (xs := #[.tmp 60, .tmp 65]) rfl ?_); at_builtin; refine Kd.R_append k47 (w0 := w) w.heap.size rfl (.tmp 60) (.tmp 65) 43 47 (.agg #[(.int .i64 0), (.int .i64 0)]) 16 rfl Try.underlying43 info47 rfl (by decide) (by omega) u7 x7_1 (⟨(rd_T47 l0 x8_1).f0, (rd_T47 l0 x8_1).f1⟩ : S47) [.int .i64 ((rd_T47 l0 x8_1).f0), .int .i64 ((rd_T47 l0 x8_1).f1)] (fun k_ => some k_ ≠ (u6 : Value).ownBlock ∧ k_ ≠ gb217) (fun _ => False) rfl rfl ?aP (fun _ hk => hk.elim) ?aF ?aO ?aB ?aS ?aL ?_; (case aP => exact k47_mkM _ _ _ (⟨(rd_T47 l0 x8_1).f0, (rd_T47 l0 x8_1).f1⟩ : S47)); (case aB => exact (by repeat (first | (with_reducible first | exact HB.out | apply below_alloc | apply pw_below_drewN | apply below_drew1 | refine below_set ?_ GE217.out) | exact HB.out))); (case aF => exact (fun k_ hk => ⟨Kd.fresh' (Kd.R_lt (by (with_reducible repeat (first | apply Kd.R_alloc | apply Kd.R_drewN | apply Kd.R_drew)); exact HO_6.out)) k_ hk, Kd.freshB (g := gb217) (o := .cells #[.int .i64 x218000_1, .int .i64 x218001_1] 47 (0, 0)) (by (with_reducible repeat (first | refine blk_drewN ?_ _ | refine blk_drew ?_ | refine blk_alloc ?_ _)); exact BK217.out) k_ hk⟩)); (case aO => exact (by (with_reducible repeat (first | apply Kd.R_alloc | apply Kd.R_drewN | apply Kd.R_drew)); exact HO_7.out)); (case aS => exact (below_size (by repeat (first | (with_reducible first | exact HB.out | apply below_alloc | apply pw_below_drewN | apply below_drew1 | refine below_set ?_ GE217.out) | exact HB.out)))); (case aL => have := LMc14.out; omega); intro v235 w15 ho hb hg hat; rw [← Ny234.out] at ho; have n0_ := Aside0.mk (Kd.R_after (ok := (fun k_ => k_ ≠ gb217)) (by (with_reducible repeat (first | apply Kd.R_alloc | apply Kd.R_drewN | apply Kd.R_drew)); exact Kd.R_mono HO_6.out (fun _ hk => ⟨hk.2, hk.1⟩)) hg hat); have n1_ := Aside0.mk (blk_grown (g := gb217) (o := .cells #[.int .i64 x218000_1, .int .i64 x218001_1] 47 (0, 0)) (by (with_reducible repeat (first | refine blk_drewN ?_ _ | refine blk_drew ?_ | refine blk_alloc ?_ _)); exact BK217.out) hg (Kd.R_away HO_7.out (fun _ hk => hk.2))); have n2_ := Aside0.mk (hb); have n3_ := Aside0.mk (ho); clear HO_6; clear BK217; clear HB; clear HO_7; have HO_6 := n0_; have BK217 := n1_; have HB := n2_; have HO236 := n3_; clear n0_ n1_ n2_ n3_; clear ho hb hg hat))
         go_roundg k1
         case measure => have := HK1.out; omega
         case rel => exact ⟨(x6_1), (y234), (wrap64 (x8_1 + 1)), (x218000_1), (x218001_1), (by first | rfl | (simp; done) | (simp [*]; done)), H', ⟨by have := HK1.out; omega⟩, ⟨by (with_reducible repeat (first | apply Kd.R_alloc | apply Kd.R_drewN | apply Kd.R_drew)); exact Kd.R_mono HO_6.out (fun _ hk => ⟨hk.2, hk.1⟩)⟩, ⟨by (with_reducible repeat (first | apply Kd.R_alloc | apply Kd.R_drewN | apply Kd.R_drew)); exact HO236.out⟩, ⟨by (with_reducible repeat (first | refine blk_drewN ?_ _ | refine blk_drew ?_ | refine blk_alloc ?_ _)); exact BK217.out⟩, ⟨by repeat (first | (with_reducible first | exact HB.out | apply below_alloc | apply pw_below_drewN | apply below_drew1 | refine below_set ?_ GE217.out) | exact HB.out)⟩⟩
        ·rw [if_neg c14] at H
         exact absurd H (by simp)
    ·rw [if_neg c6] at H
     exact absurd H (by simp)
   ·rw [if_neg c5] at H
    have c5b0 : decide (x8_1 < (l0.length : Int)) = false := decide_eq_false c5
    clear c5
    by_cases c16 : x6_1.length < 8796093022208
    ·rw [if_pos c16] at H
     have LMc16 := Aside0.mk c16
     clear c16
     obtain ⟨y218, hy218⟩ : ∃ y_ : List (S47), y_ = (x6_1 ++ [(⟨x218000_1, x218001_1⟩ : S47)]) := ⟨_, rfl⟩
     replace H : (if y218.length + x7_1.length < 8796093022208 then (some (y218 ++ x7_1)) else (none)) = some r := by first | (rw [hy218]; with_reducible exact H) | (have H2_ := (Option.bind_some _ _).symm.trans H; rw [hy218]; with_reducible exact H2_) | (have H2_ := (Option.bind_some _ _).symm.trans H; with_reducible exact H2_) | with_reducible exact H | (rw [hy218]; exact H) | exact H
     have Ny218 := Aside0.mk hy218
     clear hy218
     by_cases c17 : y218.length + x7_1.length < 8796093022208
     ·rw [if_pos c17] at H
      have LMc17 := Aside0.mk c17
      clear c17
      obtain ⟨y221, hy221⟩ : ∃ y_ : List (S47), y_ = (y218 ++ x7_1) := ⟨_, rfl⟩
      replace H : (some y221) = some r := by first | (rw [hy221]; with_reducible exact H) | (have H2_ := (Option.bind_some _ _).symm.trans H; rw [hy221]; with_reducible exact H2_) | (have H2_ := (Option.bind_some _ _).symm.trans H; with_reducible exact H2_) | with_reducible exact H | (rw [hy221]; exact H) | exact H
      have Ny221 := Aside0.mk hy221
      clear hy221
      obtain rfl := Option.some.inj H
      have hcz18_0 : wr.cell? ⟨gb217, 0, none⟩ = some (.int .i64 x218000_1) := (blk_cell BK217.out 0).trans rfl
      have hcz18_1 : wr.cell? ⟨gb217, 1, none⟩ = some (.int .i64 x218001_1) := (blk_cell BK217.out 1).trans rfl
      have hfz18_0 := blk_frozen BK217.out 0
      have hfz18_1 := blk_frozen BK217.out 1
      go_wp2_with (first | ((with_reducible refine gate_builtin (b := .append) (xs := #[.tmp 67, .tmp 69]) rfl ?_); at_builtin; refine Kd.R_append k47 (w0 := w) w.heap.size rfl (.tmp 67) (.tmp 69) 43 47 (.agg #[(.int .i64 0), (.int .i64 0)]) 16 rfl Try.underlying43 info47 rfl (by decide) (by omega) u6 x6_1 (⟨x218000_1, x218001_1⟩ : S47) [.int .i64 x218000_1, .int .i64 x218001_1] (fun k_ => some k_ ≠ (u7 : Value).ownBlock ∧ k_ ≠ gb217) (fun _ => False) rfl rfl ?aP (fun _ hk => hk.elim) ?aF ?aO ?aB ?aS ?aL ?_; (case aP => exact k47_mkM _ _ _ (⟨x218000_1, x218001_1⟩ : S47)); (case aB => exact (by repeat (first | (with_reducible first | exact HB.out | apply below_alloc | apply pw_below_drewN | apply below_drew1 | refine below_set ?_ GE217.out) | exact HB.out))); (case aF => exact (fun k_ hk => ⟨Kd.fresh' (Kd.R_lt (by (with_reducible repeat (first | apply Kd.R_alloc | apply Kd.R_drewN | apply Kd.R_drew)); exact HO_7.out)) k_ hk, Kd.freshB (g := gb217) (o := .cells #[.int .i64 x218000_1, .int .i64 x218001_1] 47 (0, 0)) (by (with_reducible repeat (first | refine blk_drewN ?_ _ | refine blk_drew ?_ | refine blk_alloc ?_ _)); exact BK217.out) k_ hk⟩)); (case aO => exact (by (with_reducible repeat (first | apply Kd.R_alloc | apply Kd.R_drewN | apply Kd.R_drew)); exact HO_6.out)); (case aS => exact (below_size (by repeat (first | (with_reducible first | exact HB.out | apply below_alloc | apply pw_below_drewN | apply below_drew1 | refine below_set ?_ GE217.out) | exact HB.out)))); (case aL => have := LMc16.out; omega); intro v219 w19 ho hb hg hat; rw [← Ny218.out] at ho; have n0_ := Aside0.mk (Kd.R_after (ok := (fun k_ => k_ ≠ gb217)) (by (with_reducible repeat (first | apply Kd.R_alloc | apply Kd.R_drewN | apply Kd.R_drew)); exact Kd.R_mono HO_7.out (fun _ hk => ⟨hk.2, hk.1⟩)) hg hat); have n1_ := Aside0.mk (blk_grown (g := gb217) (o := .cells #[.int .i64 x218000_1, .int .i64 x218001_1] 47 (0, 0)) (by (with_reducible repeat (first | refine blk_drewN ?_ _ | refine blk_drew ?_ | refine blk_alloc ?_ _)); exact BK217.out) hg (Kd.R_away HO_6.out (fun _ hk => hk.2))); have n2_ := Aside0.mk (hb); have n3_ := Aside0.mk (ho); clear HO_7; clear BK217; clear HB; clear HO_6; have HO_7 := n0_; have BK217 := n1_; have HB := n2_; have HO220 := n3_; clear n0_ n1_ n2_ n3_; clear ho hb hg hat; obtain ⟨Ao21, co21, eo21⟩ := Kd.R_slice HO_7.out; subst eo21) | ((with_reducible refine gate_builtin (b := .append) (xs := #[.tmp 70, .tmp 71]) rfl ?_); at_builtin; refine Kd.R_append_rows k47 (w0 := w) w.heap.size rfl (.tmp 70) (.tmp 71) 43 47 (.agg #[(.int .i64 0), (.int .i64 0)]) 16 rfl Try.underlying43 info47 rfl (by decide) (by omega) v219 y218 x7_1 _ _ _ (fun k_ => some k_ ≠ (.slice Ao21 x7_1.length co21 : Value).ownBlock ∧ k_ ≠ gb217) (fun _ => False) rfl rfl ?aO ?aR (fun _ _ h => h) (fun _ h => h.elim) ?aF ?aB ?aS ?aL ?_; (case aR => repeat (first | exact (Kd.R_reads' HO_7.out).2.2 | (with_reducible refine Kd.C_alloc ?_ _) | (with_reducible refine Kd.C_drewN ?_ _) | (with_reducible refine Kd.C_drew ?_))); (case aB => exact (by repeat (first | (with_reducible first | exact HB.out | apply below_alloc | apply pw_below_drewN | apply below_drew1 | refine below_set ?_ GE217.out) | exact HB.out))); (case aF => exact (fun k_ hk => ⟨Kd.fresh' (Kd.R_lt (by (with_reducible repeat (first | apply Kd.R_alloc | apply Kd.R_drewN | apply Kd.R_drew)); exact HO_7.out)) k_ hk, Kd.freshB (g := gb217) (o := .cells #[.int .i64 x218000_1, .int .i64 x218001_1] 47 (0, 0)) (by (with_reducible repeat (first | refine blk_drewN ?_ _ | refine blk_drew ?_ | refine blk_alloc ?_ _)); exact BK217.out) k_ hk⟩)); (case aO => exact (by (with_reducible repeat (first | apply Kd.R_alloc | apply Kd.R_drewN | apply Kd.R_drew)); exact HO220.out)); (case aS => exact (below_size (by repeat (first | (with_reducible first | exact HB.out | apply below_alloc | apply pw_below_drewN | apply below_drew1 | refine below_set ?_ GE217.out) | exact HB.out)))); (case aL => have := LMc17.out; omega); intro v222 w20 ho hb hg hat; rw [← Ny221.out] at ho; have n0_ := Aside0.mk (Kd.R_after (ok := (fun k_ => k_ ≠ gb217)) (by (with_reducible repeat (first | apply Kd.R_alloc | apply Kd.R_drewN | apply Kd.R_drew)); exact HO_7.out) hg hat); have n1_ := Aside0.mk (blk_grown (g := gb217) (o := .cells #[.int .i64 x218000_1, .int .i64 x218001_1] 47 (0, 0)) (by (with_reducible repeat (first | refine blk_drewN ?_ _ | refine blk_drew ?_ | refine blk_alloc ?_ _)); exact BK217.out) hg (Kd.R_away HO220.out (fun _ hk => hk.2))); have n2_ := Aside0.mk (hb); have n3_ := Aside0.mk (ho); clear HO_7; clear BK217; clear HB; clear HO220; have HO_7 := n0_; have BK217 := n1_; have HB := n2_; have HO223 := n3_; clear n0_ n1_ n2_ n3_; clear ho hb hg hat))
      go_ret
      exact ⟨_, by first | rfl | (simp [errW_none, errW_some] <;> rfl) | (simp [*, errW_none, errW_some] <;> rfl), by (with_reducible repeat (first | apply Kd.R_alloc | apply Kd.R_drewN | apply Kd.R_drew)); exact Kd.R_mono HO223.out (fun _ hk => trivial), by repeat (first | (with_reducible first | exact HB.out | apply below_alloc | apply pw_below_drewN | apply below_drew1 | refine below_set ?_ GE217.out) | exact HB.out)⟩
     ·rw [if_neg c17] at H
      exact absurd H (by simp)
    ·rw [if_neg c16] at H
     exact absurd H (by simp)

end Go.Proofs.Ytjibgfihfbdcaaa.PSeen
