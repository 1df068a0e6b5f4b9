-- A text of this claim, written by this session's program. -- SLIM
import Derived.Test.YtjibgfihfbdcaaaPSeenx0
import Derived.Test.YtjibgfihfbdcaaaPSeenx9
import Derived.Test.YtjibgfihfbdcaaaPSeenx10
namespace Go.Proofs.Ytjibgfihfbdcaaa.PSeen
open Go.RowKit Go.Proofs.YtjibgfihfbdcaaaW.PrintWords Go.Proofs.YtjibgfihfbdcaaaW.PrintLast Go.Proofs.YtjibgfihfbdcaaaW.PrintMore
attribute [local go_sem] max2_int min2_int max_two min_two max_three min_three max_four min_four   -- for this text's walks alone
set_option linter.unusedVariables false
set_option linter.unusedSimpArgs false

/-! ### slotmeshref26_Add: function 12 -/
mutual
def slotmeshref26_Add.j0 : Nat → List (S45) → Int → Int → Bool → Option ((List (S45)) × Bool × Int)
 | 0, _, _, _, _ => none
 | k + 1, x0, x1, x2, x30 => if x30 = true then (some (([] : List (S45)), false, 1)) else ((slotmeshref26_Has.f k x0 x1 x2).bind fun t238 => (if t238 = true then (some (x0, false, 0)) else (slotmeshref26_Add.l0 k x0 x1 x2 ([] : List (S45)) false 0)))
def slotmeshref26_Add.l0 : Nat → List (S45) → Int → Int → List (S45) → Bool → Int → Option ((List (S45)) × Bool × Int)
 | 0, _, _, _, _, _, _ => none
 | k + 1, x0, x1, x2, x9, x10, x11 => if x11 < (x0.length : Int) then (if x10 = true then (slotmeshref26_Add.j2 k x0 x1 x2 x9 x10 x11 false) else (if 0 ≤ x11 then (slotmeshref26_Add.j2 k x0 x1 x2 x9 x10 x11 (decide (((rd_T45 x0 x11).f0) ≥ x1))) else (none))) else (if x10 = true then ((slotmeshref26_Many.f k x9).bind fun t259 => (if t259 > 64 then (some (([] : List (S45)), false, 10)) else (some (x9, true, 0)))) else ((slotmeshref26_with.f k ([] : List (S47)) x2).bind fun t260 => (if x9.length < 4398046511104 then ((some (x9 ++ [(⟨x1, t260⟩ : S45)] : List (S45))).bind fun y263 => ((slotmeshref26_Many.f k y263).bind fun t266 => (if t266 > 64 then (some (([] : List (S45)), false, 10)) else (some (y263, true, 0))))) else (none))))
def slotmeshref26_Add.j2 : Nat → List (S45) → Int → Int → List (S45) → Bool → Int → Bool → Option ((List (S45)) × Bool × Int)
 | 0, _, _, _, _, _, _, _ => none
 | k + 1, x0, x1, x2, x9, x10, x11, x52 => if x52 = true then ((slotmeshref26_Of.f k x0 x1).bind fun t240 => ((slotmeshref26_with.f k t240 x2).bind fun t243 => (if x9.length < 4398046511104 then ((some (x9 ++ [(⟨x1, t243⟩ : S45)] : List (S45))).bind fun y246 => (if 0 ≤ x11 then (if x11 < (x0.length : Int) then (if ((rd_T45 x0 x11).f0) = x1 then (slotmeshref26_Add.l0 k x0 x1 x2 y246 true (wrap64 (x11 + 1))) else (if y246.length < 4398046511104 then (slotmeshref26_Add.l0 k x0 x1 x2 (y246 ++ [(⟨(rd_T45 x0 x11).f0, (rd_T45 x0 x11).f1⟩ : S45)]) true (wrap64 (x11 + 1))) else (none))) else (none)) else (none))) else (none)))) else (if 0 ≤ x11 then (if x11 < (x0.length : Int) then (if ((rd_T45 x0 x11).f0) = x1 then (slotmeshref26_Add.l0 k x0 x1 x2 x9 x10 (wrap64 (x11 + 1))) else (if x9.length < 4398046511104 then (slotmeshref26_Add.l0 k x0 x1 x2 (x9 ++ [(⟨(rd_T45 x0 x11).f0, (rd_T45 x0 x11).f1⟩ : S45)]) x10 (wrap64 (x11 + 1))) else (none))) else (none)) else (none))
end
def slotmeshref26_Add.f (k : Nat) (l0 : List (S45)) (a1 : Int) (a2 : Int) : Option ((List (S45)) × Bool × Int) := (slotmeshref26_Valid.f k l0).bind fun t237 => (if t237 = true then (if a1 < 0 then (slotmeshref26_Add.j0 k l0 a1 a2 true) else (if a1 ≥ 60 then (slotmeshref26_Add.j0 k l0 a1 a2 true) else (if a2 < 1 then (slotmeshref26_Add.j0 k l0 a1 a2 true) else (slotmeshref26_Add.j0 k l0 a1 a2 (decide (a2 > 1000000000)))))) else (slotmeshref26_Add.j0 k l0 a1 a2 true))
theorem slotmeshref26_Add.mono_l : ∀ k, (∀ y0 y1 y2 y3, LeO (slotmeshref26_Add.j0 k y0 y1 y2 y3) (slotmeshref26_Add.j0 (k + 1) y0 y1 y2 y3)) ∧ (∀ y0 y1 y2 y3 y4 y5, LeO (slotmeshref26_Add.l0 k y0 y1 y2 y3 y4 y5) (slotmeshref26_Add.l0 (k + 1) y0 y1 y2 y3 y4 y5)) ∧ (∀ y0 y1 y2 y3 y4 y5 y6, LeO (slotmeshref26_Add.j2 k y0 y1 y2 y3 y4 y5 y6) (slotmeshref26_Add.j2 (k + 1) y0 y1 y2 y3 y4 y5 y6))
 | 0 => ⟨fun _ _ _ _ r h => by simp [slotmeshref26_Add.j0] at h, fun _ _ _ _ _ _ r h => by simp [slotmeshref26_Add.l0] at h, fun _ _ _ _ _ _ _ r h => by simp [slotmeshref26_Add.j2] at h⟩
 | k + 1 => by
  obtain ⟨ih0, ih1, ih2⟩ := slotmeshref26_Add.mono_l k
  refine ⟨?_, ?_, ?_⟩
  ·intro y0 y1 y2 y3
   unfold slotmeshref26_Add.j0
   repeat' first
   | (with_reducible exact ih0 _ _ _ _)
   | (with_reducible exact ih1 _ _ _ _ _ _)
   | (with_reducible exact ih2 _ _ _ _ _ _ _)
   | (with_reducible exact slotmeshref26_Has.mono _ _ _ _)
   | (with_reducible exact slotmeshref26_Many.mono _ _)
   | (with_reducible exact slotmeshref26_Of.mono _ _ _)
   | (with_reducible exact slotmeshref26_Valid.mono _ _)
   | (with_reducible exact slotmeshref26_with.mono _ _ _)
   | (with_reducible exact LeO.refl _)
   | (with_reducible exact LeO.none _)
   | (with_reducible refine LeO.ite ?_ ?_)
   | (with_reducible refine LeO.bind ?_ (fun _ => ?_))
   | exact ih0 _ _ _ _
   | exact ih1 _ _ _ _ _ _
   | exact ih2 _ _ _ _ _ _ _
   | exact slotmeshref26_Has.mono _ _ _ _
   | exact slotmeshref26_Many.mono _ _
   | exact slotmeshref26_Of.mono _ _ _
   | exact slotmeshref26_Valid.mono _ _
   | exact slotmeshref26_with.mono _ _ _
   | exact LeO.none _
   | refine LeO.ite ?_ ?_
   | refine LeO.bind ?_ (fun _ => ?_)
  ·intro y0 y1 y2 y3 y4 y5
   unfold slotmeshref26_Add.l0
   repeat' first
   | (with_reducible exact ih0 _ _ _ _)
   | (with_reducible exact ih1 _ _ _ _ _ _)
   | (with_reducible exact ih2 _ _ _ _ _ _ _)
   | (with_reducible exact slotmeshref26_Has.mono _ _ _ _)
   | (with_reducible exact slotmeshref26_Many.mono _ _)
   | (with_reducible exact slotmeshref26_Of.mono _ _ _)
   | (with_reducible exact slotmeshref26_Valid.mono _ _)
   | (with_reducible exact slotmeshref26_with.mono _ _ _)
   | (with_reducible exact LeO.refl _)
   | (with_reducible exact LeO.none _)
   | (with_reducible refine LeO.ite ?_ ?_)
   | (with_reducible refine LeO.bind ?_ (fun _ => ?_))
   | exact ih0 _ _ _ _
   | exact ih1 _ _ _ _ _ _
   | exact ih2 _ _ _ _ _ _ _
   | exact slotmeshref26_Has.mono _ _ _ _
   | exact slotmeshref26_Many.mono _ _
   | exact slotmeshref26_Of.mono _ _ _
   | exact slotmeshref26_Valid.mono _ _
   | exact slotmeshref26_with.mono _ _ _
   | exact LeO.none _
   | refine LeO.ite ?_ ?_
   | refine LeO.bind ?_ (fun _ => ?_)
  ·intro y0 y1 y2 y3 y4 y5 y6
   unfold slotmeshref26_Add.j2
   repeat' first
   | (with_reducible exact ih0 _ _ _ _)
   | (with_reducible exact ih1 _ _ _ _ _ _)
   | (with_reducible exact ih2 _ _ _ _ _ _ _)
   | (with_reducible exact slotmeshref26_Has.mono _ _ _ _)
   | (with_reducible exact slotmeshref26_Many.mono _ _)
   | (with_reducible exact slotmeshref26_Of.mono _ _ _)
   | (with_reducible exact slotmeshref26_Valid.mono _ _)
   | (with_reducible exact slotmeshref26_with.mono _ _ _)
   | (with_reducible exact LeO.refl _)
   | (with_reducible exact LeO.none _)
   | (with_reducible refine LeO.ite ?_ ?_)
   | (with_reducible refine LeO.bind ?_ (fun _ => ?_))
   | exact ih0 _ _ _ _
   | exact ih1 _ _ _ _ _ _
   | exact ih2 _ _ _ _ _ _ _
   | exact slotmeshref26_Has.mono _ _ _ _
   | exact slotmeshref26_Many.mono _ _
   | exact slotmeshref26_Of.mono _ _ _
   | exact slotmeshref26_Valid.mono _ _
   | exact slotmeshref26_with.mono _ _ _
   | exact LeO.none _
   | refine LeO.ite ?_ ?_
   | refine LeO.bind ?_ (fun _ => ?_)
theorem slotmeshref26_Add.mono : ∀ a0 a1 a2 k, LeO (slotmeshref26_Add.f k a0 a1 a2) (slotmeshref26_Add.f (k + 1) a0 a1 a2) := by
 intro a0 a1 a2 k
 obtain ⟨ih0, ih1, ih2⟩ := slotmeshref26_Add.mono_l k
 unfold slotmeshref26_Add.f
 repeat' first
   | (with_reducible exact ih0 _ _ _ _)
   | (with_reducible exact ih1 _ _ _ _ _ _)
   | (with_reducible exact ih2 _ _ _ _ _ _ _)
   | (with_reducible exact slotmeshref26_Has.mono _ _ _ _)
   | (with_reducible exact slotmeshref26_Many.mono _ _)
   | (with_reducible exact slotmeshref26_Of.mono _ _ _)
   | (with_reducible exact slotmeshref26_Valid.mono _ _)
   | (with_reducible exact slotmeshref26_with.mono _ _ _)
   | (with_reducible exact LeO.refl _)
   | (with_reducible exact LeO.none _)
   | (with_reducible refine LeO.ite ?_ ?_)
   | (with_reducible refine LeO.bind ?_ (fun _ => ?_))
   | exact ih0 _ _ _ _
   | exact ih1 _ _ _ _ _ _
   | exact ih2 _ _ _ _ _ _ _
   | exact slotmeshref26_Has.mono _ _ _ _
   | exact slotmeshref26_Many.mono _ _
   | exact slotmeshref26_Of.mono _ _ _
   | exact slotmeshref26_Valid.mono _ _
   | exact slotmeshref26_with.mono _ _ _
   | exact LeO.none _
   | refine LeO.ite ?_ ?_
   | refine LeO.bind ?_ (fun _ => ?_)
set_option maxHeartbeats 8000000 in
set_option maxRecDepth 100000 in
theorem slotmeshref26_Add.calls (k : Nat) (P0_ : Nat → Prop) (A0 : Option Addr) (c0 : Nat) (l0 : List (S45)) (a1 : Int) (a2 : Int) (r1 : List (S45)) (r2 : Bool) (r3 : Int) (w : World) (hs0 : Kd.V k45 45 w w.heap.size (fun k_ => P0_ k_) (.slice A0 l0.length c0) l0) (h : slotmeshref26_Add.f k l0 a1 a2 = some (r1, r2, r3)) :
  Calls Try.prog 12 #[.slice A0 l0.length c0, .int .i64 a1, .int .i64 a2] w fun e w' => ∃ v0_ : Value, e = .returned (.tuple #[v0_, .bool r2, .int .i64 r3]) ∧ Kd.V k45 45 w' w.heap.size (fun k_ => (P0_ k_ ∨ w.heap.size ≤ k_)) v0_ r1 ∧ Below w.heap.size w w' := by
 have hu45 := Try.underlying45
 have HO0 := Aside0.mk (show Kd.V k45 45 w w.heap.size (fun k_ => (P0_ k_ ∨ w.heap.size ≤ k_)) (.slice A0 l0.length c0) l0 from Kd.V_mono hs0 (fun k_ hk => .inl hk))
 have HB := Aside0.mk (Below.refl w.heap.size w)
 have H : ((slotmeshref26_Valid.f k l0).bind fun t237 => (if t237 = true then (if a1 < 0 then (slotmeshref26_Add.j0 k l0 a1 a2 true) else (if a1 ≥ 60 then (slotmeshref26_Add.j0 k l0 a1 a2 true) else (if a2 < 1 then (slotmeshref26_Add.j0 k l0 a1 a2 true) else (slotmeshref26_Add.j0 k l0 a1 a2 (decide (a2 > 1000000000)))))) else (slotmeshref26_Add.j0 k l0 a1 a2 true))) = some (r1, r2, r3) := h
 clear h
 have HC4 := Aside0.mk H
 clear H
 go_enter Try.func12, Try.ntmps12
 go_upto_region 1 with (fail)
 go_cut [30] (fun v30 wc => ∃ (kq : Nat) (x30_3 : Bool), v30 = .bool x30_3 ∧ Aside0 (slotmeshref26_Add.j0 kq l0 a1 a2 x30_3 = some (r1, r2, r3)) ∧ Aside0 (kq ≤ k) ∧ Aside0 (Kd.V k45 45 wc w.heap.size (fun k_ => (P0_ k_ ∨ w.heap.size ≤ k_)) (.slice A0 l0.length c0) l0) ∧ Aside0 (Below w.heap.size w wc))
 case first =>
  have H := HC4.out
  clear HC4
  replace H := Option.bind_eq_some_iff.mp H
  obtain ⟨t237, A50, H⟩ := H
  replace H : (if t237 = true then (if a1 < 0 then (slotmeshref26_Add.j0 k l0 a1 a2 true) else (if a1 ≥ 60 then (slotmeshref26_Add.j0 k l0 a1 a2 true) else (if a2 < 1 then (slotmeshref26_Add.j0 k l0 a1 a2 true) else (slotmeshref26_Add.j0 k l0 a1 a2 (decide (a2 > 1000000000)))))) else (slotmeshref26_Add.j0 k l0 a1 a2 true)) = some (r1, r2, r3) := H
  have A5 := Aside0.mk A50
  clear A50
  by_cases c6 : t237 = true
  ·subst c6
   have H1 : (if a1 < 0 then (slotmeshref26_Add.j0 k l0 a1 a2 true) else (if a1 ≥ 60 then (slotmeshref26_Add.j0 k l0 a1 a2 true) else (if a2 < 1 then (slotmeshref26_Add.j0 k l0 a1 a2 true) else (slotmeshref26_Add.j0 k l0 a1 a2 (decide (a2 > 1000000000)))))) = some (r1, r2, r3) := by rw [if_pos rfl] at H; exact H
   clear H
   have H := H1
   clear H1
   by_cases c7 : a1 < 0
   ·rw [if_pos c7] at H
    have c7b0 : decide (a1 < 0) = true := decide_eq_true c7
    clear c7
    (first | rw [c7b0] | (simp only [i64_w, i32_w]; rw [c7b0]) | skip)
    have H' := Aside0.mk H
    clear H
    go_wp2_with (first | ((with_reducible refine gate_callee (f := 14) rfl ?_); refine goesL_ (some 13) rfl rfl Try.func14 (by kernel_rfl) rfl #[.slice A0 l0.length c0] rfl (by (try simp only [List.map_toArray, List.map_cons, List.map_nil]); first | done | rfl | (simp only [List.length_drop, List.length_take]; rfl)) ?_; (with_reducible refine (slotmeshref26_Valid.calls k _ _ l0 true _ ?side1 ?side2 A5.out).mono ?_); (case side1 => repeat (first | exact (Kd.V_reads' HO0.out).2.2 | (with_reducible refine Kd.C_alloc ?_ _) | (with_reducible refine Kd.C_drewN ?_ _) | (with_reducible refine Kd.C_drew ?_))); (case side2 => exact (Kd.V_reads' HO0.out).2.1); rintro e w8 ⟨rfl, hb⟩; refine ⟨_, rfl, ?_⟩; have n0_ := Aside0.mk (Kd.V_below (by (with_reducible repeat (first | apply Kd.V_alloc | apply Kd.V_drewN | apply Kd.V_drew)); exact HO0.out) hb); have n1_ := Aside0.mk (below_step (by repeat (first | (with_reducible first | exact HB.out | apply below_alloc | apply pw_below_drewN | apply below_drew1) | exact HB.out)) hb); clear HO0; clear HB; have HO0 := n0_; have HB := n1_; clear n0_ n1_; (try clear hb); (try clear hb2); (try clear hk); (try clear hi)))
    go_meet
    case rel => exact ⟨_, (true), (by first | rfl | (simp; done) | (simp [*]; done)), H', ⟨by first | omega | exact Nat.le_refl _⟩, ⟨by (with_reducible repeat (first | apply Kd.V_alloc | apply Kd.V_drewN | apply Kd.V_drew)); exact HO0.out⟩, ⟨by repeat (first | (with_reducible first | exact HB.out | apply below_alloc | apply pw_below_drewN | apply below_drew1) | exact HB.out)⟩⟩
   ·rw [if_neg c7] at H
    have c7b0 : decide (a1 < 0) = false := decide_eq_false c7
    clear c7
    (first | rw [c7b0] | (simp only [i64_w, i32_w]; rw [c7b0]) | skip)
    by_cases c9 : a1 ≥ 60
    ·rw [if_pos c9] at H
     have c9b0 : decide (60 ≤ a1) = true := decide_eq_true c9
     clear c9
     have H' := Aside0.mk H
     clear H
     go_wp2_with (first | ((with_reducible refine gate_callee (f := 14) rfl ?_); refine goesL_ (some 13) rfl rfl Try.func14 (by kernel_rfl) rfl #[.slice A0 l0.length c0] rfl (by (try simp only [List.map_toArray, List.map_cons, List.map_nil]); first | done | rfl | (simp only [List.length_drop, List.length_take]; rfl)) ?_; (with_reducible refine (slotmeshref26_Valid.calls k _ _ l0 true _ ?side1 ?side2 A5.out).mono ?_); (case side1 => repeat (first | exact (Kd.V_reads' HO0.out).2.2 | (with_reducible refine Kd.C_alloc ?_ _) | (with_reducible refine Kd.C_drewN ?_ _) | (with_reducible refine Kd.C_drew ?_))); (case side2 => exact (Kd.V_reads' HO0.out).2.1); rintro e w10 ⟨rfl, hb⟩; refine ⟨_, rfl, ?_⟩; have n0_ := Aside0.mk (Kd.V_below (by (with_reducible repeat (first | apply Kd.V_alloc | apply Kd.V_drewN | apply Kd.V_drew)); exact HO0.out) hb); have n1_ := Aside0.mk (below_step (by repeat (first | (with_reducible first | exact HB.out | apply below_alloc | apply pw_below_drewN | apply below_drew1) | exact HB.out)) hb); clear HO0; clear HB; have HO0 := n0_; have HB := n1_; clear n0_ n1_; (try clear hb); (try clear hb2); (try clear hk); (try clear hi)))
     go_meet
     case rel => exact ⟨_, (true), (by first | rfl | (simp; done) | (simp [*]; done)), H', ⟨by first | omega | exact Nat.le_refl _⟩, ⟨by (with_reducible repeat (first | apply Kd.V_alloc | apply Kd.V_drewN | apply Kd.V_drew)); exact HO0.out⟩, ⟨by repeat (first | (with_reducible first | exact HB.out | apply below_alloc | apply pw_below_drewN | apply below_drew1) | exact HB.out)⟩⟩
    ·rw [if_neg c9] at H
     have c9b0 : decide (60 ≤ a1) = false := decide_eq_false c9
     clear c9
     by_cases c11 : a2 < 1
     ·rw [if_pos c11] at H
      have c11b0 : decide (a2 < 1) = true := decide_eq_true c11
      clear c11
      have H' := Aside0.mk H
      clear H
      go_wp2_with (first | ((with_reducible refine gate_callee (f := 14) rfl ?_); refine goesL_ (some 13) rfl rfl Try.func14 (by kernel_rfl) rfl #[.slice A0 l0.length c0] rfl (by (try simp only [List.map_toArray, List.map_cons, List.map_nil]); first | done | rfl | (simp only [List.length_drop, List.length_take]; rfl)) ?_; (with_reducible refine (slotmeshref26_Valid.calls k _ _ l0 true _ ?side1 ?side2 A5.out).mono ?_); (case side1 => repeat (first | exact (Kd.V_reads' HO0.out).2.2 | (with_reducible refine Kd.C_alloc ?_ _) | (with_reducible refine Kd.C_drewN ?_ _) | (with_reducible refine Kd.C_drew ?_))); (case side2 => exact (Kd.V_reads' HO0.out).2.1); rintro e w12 ⟨rfl, hb⟩; refine ⟨_, rfl, ?_⟩; have n0_ := Aside0.mk (Kd.V_below (by (with_reducible repeat (first | apply Kd.V_alloc | apply Kd.V_drewN | apply Kd.V_drew)); exact HO0.out) hb); have n1_ := Aside0.mk (below_step (by repeat (first | (with_reducible first | exact HB.out | apply below_alloc | apply pw_below_drewN | apply below_drew1) | exact HB.out)) hb); clear HO0; clear HB; have HO0 := n0_; have HB := n1_; clear n0_ n1_; (try clear hb); (try clear hb2); (try clear hk); (try clear hi)))
      go_meet
      case rel => exact ⟨_, (true), (by first | rfl | (simp; done) | (simp [*]; done)), H', ⟨by first | omega | exact Nat.le_refl _⟩, ⟨by (with_reducible repeat (first | apply Kd.V_alloc | apply Kd.V_drewN | apply Kd.V_drew)); exact HO0.out⟩, ⟨by repeat (first | (with_reducible first | exact HB.out | apply below_alloc | apply pw_below_drewN | apply below_drew1) | exact HB.out)⟩⟩
     ·rw [if_neg c11] at H
      have c11b0 : decide (a2 < 1) = false := decide_eq_false c11
      clear c11
      have H' := Aside0.mk H
      clear H
      go_wp2_with (first | ((with_reducible refine gate_callee (f := 14) rfl ?_); refine goesL_ (some 13) rfl rfl Try.func14 (by kernel_rfl) rfl #[.slice A0 l0.length c0] rfl (by (try simp only [List.map_toArray, List.map_cons, List.map_nil]); first | done | rfl | (simp only [List.length_drop, List.length_take]; rfl)) ?_; (with_reducible refine (slotmeshref26_Valid.calls k _ _ l0 true _ ?side1 ?side2 A5.out).mono ?_); (case side1 => repeat (first | exact (Kd.V_reads' HO0.out).2.2 | (with_reducible refine Kd.C_alloc ?_ _) | (with_reducible refine Kd.C_drewN ?_ _) | (with_reducible refine Kd.C_drew ?_))); (case side2 => exact (Kd.V_reads' HO0.out).2.1); rintro e w13 ⟨rfl, hb⟩; refine ⟨_, rfl, ?_⟩; have n0_ := Aside0.mk (Kd.V_below (by (with_reducible repeat (first | apply Kd.V_alloc | apply Kd.V_drewN | apply Kd.V_drew)); exact HO0.out) hb); have n1_ := Aside0.mk (below_step (by repeat (first | (with_reducible first | exact HB.out | apply below_alloc | apply pw_below_drewN | apply below_drew1) | exact HB.out)) hb); clear HO0; clear HB; have HO0 := n0_; have HB := n1_; clear n0_ n1_; (try clear hb); (try clear hb2); (try clear hk); (try clear hi)))
      go_meet
      case rel => exact ⟨_, (decide (a2 > 1000000000)), (by first | rfl | (simp; done) | (simp [*]; done)), H', ⟨by first | omega | exact Nat.le_refl _⟩, ⟨by (with_reducible repeat (first | apply Kd.V_alloc | apply Kd.V_drewN | apply Kd.V_drew)); exact HO0.out⟩, ⟨by repeat (first | (with_reducible first | exact HB.out | apply below_alloc | apply pw_below_drewN | apply below_drew1) | exact HB.out)⟩⟩
  ·replace c6 := Bool.eq_false_iff.mpr c6
   subst c6
   have H1 : (slotmeshref26_Add.j0 k l0 a1 a2 true) = some (r1, r2, r3) := by rw [if_neg (show ¬ (false = true) by decide)] at H; exact H
   clear H
   have H := H1
   clear H1
   have H' := Aside0.mk H
   clear H
   go_wp2_with (first | ((with_reducible refine gate_callee (f := 14) rfl ?_); refine goesL_ (some 13) rfl rfl Try.func14 (by kernel_rfl) rfl #[.slice A0 l0.length c0] rfl (by (try simp only [List.map_toArray, List.map_cons, List.map_nil]); first | done | rfl | (simp only [List.length_drop, List.length_take]; rfl)) ?_; (with_reducible refine (slotmeshref26_Valid.calls k _ _ l0 false _ ?side1 ?side2 A5.out).mono ?_); (case side1 => repeat (first | exact (Kd.V_reads' HO0.out).2.2 | (with_reducible refine Kd.C_alloc ?_ _) | (with_reducible refine Kd.C_drewN ?_ _) | (with_reducible refine Kd.C_drew ?_))); (case side2 => exact (Kd.V_reads' HO0.out).2.1); rintro e w14 ⟨rfl, hb⟩; refine ⟨_, rfl, ?_⟩; have n0_ := Aside0.mk (Kd.V_below (by (with_reducible repeat (first | apply Kd.V_alloc | apply Kd.V_drewN | apply Kd.V_drew)); exact HO0.out) hb); have n1_ := Aside0.mk (below_step (by repeat (first | (with_reducible first | exact HB.out | apply below_alloc | apply pw_below_drewN | apply below_drew1) | exact HB.out)) hb); clear HO0; clear HB; have HO0 := n0_; have HB := n1_; clear n0_ n1_; (try clear hb); (try clear hb2); (try clear hk); (try clear hi)))
   go_meet
   case rel => exact ⟨_, (true), (by first | rfl | (simp; done) | (simp [*]; done)), H', ⟨by first | omega | exact Nat.le_refl _⟩, ⟨by (with_reducible repeat (first | apply Kd.V_alloc | apply Kd.V_drewN | apply Kd.V_drew)); exact HO0.out⟩, ⟨by repeat (first | (with_reducible first | exact HB.out | apply below_alloc | apply pw_below_drewN | apply below_drew1) | exact HB.out)⟩⟩
 case rest =>
  clear HC4
  try clear c1
  try clear p2
  try clear c6
  try clear c7
  try clear c7b0
  try clear c9
  try clear c9b0
  try clear c11
  try clear c11b0
  try clear c12
  try clear c14
  obtain ⟨kq, x30_3, rfl, HA, HJ3, HO_0, HB⟩ := hcut
  cases kq with
  | zero => exact absurd HA.out (by simp [slotmeshref26_Add.j0])
  | succ kj3 =>
   have H := HA.out
   clear HA
   simp only [slotmeshref26_Add.j0] at H
   by_cases c15 : x30_3 = true
   ·subst c15
    have H1 : (some (([] : List (S45)), false, 1)) = some (r1, r2, r3) := by rw [if_pos rfl] at H; exact H
    clear H
    have H := H1
    clear H1
    simp only [Option.some.injEq, Prod.mk.injEq] at H
    obtain ⟨rfl, rfl, rfl⟩ := H
    go_wp2
    go_ret3
    exact ⟨.slice none 0 0, by first | rfl | (simp [errW_none, errW_some] <;> rfl) | (simp [*, errW_none, errW_some] <;> rfl), Kd.V_nil _ _ _ _ _, by repeat (first | (with_reducible first | exact HB.out | apply below_alloc | apply pw_below_drewN | apply below_drew1) | exact HB.out)⟩
   ·replace c15 := Bool.eq_false_iff.mpr c15
    subst c15
    have H1 : ((slotmeshref26_Has.f kj3 l0 a1 a2).bind fun t238 => (if t238 = true then (some (l0, false, 0)) else (slotmeshref26_Add.l0 kj3 l0 a1 a2 ([] : List (S45)) false 0))) = some (r1, r2, r3) := by rw [if_neg (show ¬ (false = true) by decide)] at H; exact H
    clear H
    have H := H1
    clear H1
    replace H := Option.bind_eq_some_iff.mp H
    obtain ⟨t238, A160, H⟩ := H
    replace H : (if t238 = true then (some (l0, false, 0)) else (slotmeshref26_Add.l0 kj3 l0 a1 a2 ([] : List (S45)) false 0)) = some (r1, r2, r3) := H
    have A16 := Aside0.mk A160
    clear A160
    by_cases c17 : t238 = true
    ·subst c17
     have H1 : (some (l0, false, 0)) = some (r1, r2, r3) := by rw [if_pos rfl] at H; exact H
     clear H
     have H := H1
     clear H1
     simp only [Option.some.injEq, Prod.mk.injEq] at H
     obtain ⟨rfl, rfl, rfl⟩ := H
     go_wp2_with (first | ((with_reducible refine gate_callee (f := 16) rfl ?_); refine goesL_ (some 34) rfl rfl Try.func16 (by kernel_rfl) rfl #[.slice A0 l0.length c0, .int .i64 a1, .int .i64 a2] rfl (by (try simp only [List.map_toArray, List.map_cons, List.map_nil]); first | done | rfl | (simp only [List.length_drop, List.length_take]; rfl)) ?_; (with_reducible refine (slotmeshref26_Has.calls kj3 _ _ l0 a1 a2 true _ ?side1 ?side2 A16.out).mono ?_); (case side1 => repeat (first | exact (Kd.V_reads' HO_0.out).2.2 | (with_reducible refine Kd.C_alloc ?_ _) | (with_reducible refine Kd.C_drewN ?_ _) | (with_reducible refine Kd.C_drew ?_))); (case side2 => exact (Kd.V_reads' HO_0.out).2.1); rintro e w18 ⟨rfl, hb⟩; refine ⟨_, rfl, ?_⟩; have n0_ := Aside0.mk (Kd.V_below (by (with_reducible repeat (first | apply Kd.V_alloc | apply Kd.V_drewN | apply Kd.V_drew)); exact HO_0.out) hb); have n1_ := Aside0.mk (below_step (by repeat (first | (with_reducible first | exact HB.out | apply below_alloc | apply pw_below_drewN | apply below_drew1) | exact HB.out)) hb); clear HO_0; clear HB; have HO_0 := n0_; have HB := n1_; clear n0_ n1_; (try clear hb); (try clear hb2); (try clear hk); (try clear hi)))
     go_ret3
     exact ⟨_, by first | rfl | (simp [errW_none, errW_some] <;> rfl) | (simp [*, errW_none, errW_some] <;> rfl), by (with_reducible repeat (first | apply Kd.V_alloc | apply Kd.V_drewN | apply Kd.V_drew)); exact HO_0.out, by repeat (first | (with_reducible first | exact HB.out | apply below_alloc | apply pw_below_drewN | apply below_drew1) | exact HB.out)⟩
    ·replace c17 := Bool.eq_false_iff.mpr c17
     subst c17
     have H1 : (slotmeshref26_Add.l0 kj3 l0 a1 a2 ([] : List (S45)) false 0) = some (r1, r2, r3) := by rw [if_neg (show ¬ (false = true) by decide)] at H; exact H
     clear H
     have H := H1
     clear H1
     have H' := Aside0.mk H
     clear H
     go_wp2_with (first | ((with_reducible refine gate_callee (f := 16) rfl ?_); refine goesL_ (some 34) rfl rfl Try.func16 (by kernel_rfl) rfl #[.slice A0 l0.length c0, .int .i64 a1, .int .i64 a2] rfl (by (try simp only [List.map_toArray, List.map_cons, List.map_nil]); first | done | rfl | (simp only [List.length_drop, List.length_take]; rfl)) ?_; (with_reducible refine (slotmeshref26_Has.calls kj3 _ _ l0 a1 a2 false _ ?side1 ?side2 A16.out).mono ?_); (case side1 => repeat (first | exact (Kd.V_reads' HO_0.out).2.2 | (with_reducible refine Kd.C_alloc ?_ _) | (with_reducible refine Kd.C_drewN ?_ _) | (with_reducible refine Kd.C_drew ?_))); (case side2 => exact (Kd.V_reads' HO_0.out).2.1); rintro e w19 ⟨rfl, hb⟩; refine ⟨_, rfl, ?_⟩; have n0_ := Aside0.mk (Kd.V_below (by (with_reducible repeat (first | apply Kd.V_alloc | apply Kd.V_drewN | apply Kd.V_drew)); exact HO_0.out) hb); have n1_ := Aside0.mk (below_step (by repeat (first | (with_reducible first | exact HB.out | apply below_alloc | apply pw_below_drewN | apply below_drew1) | exact HB.out)) hb); clear HO_0; clear HB; have HO_0 := n0_; have HB := n1_; clear n0_ n1_; (try clear hb); (try clear hb2); (try clear hk); (try clear hi)))
     go_loopg [9, 10, 11] kj3 (fun kq v9 v10 v11 w' => ∃ (x9_2 : List (S45)) (x10_2 : Bool) (x11_2 : Int), v10 = .bool x10_2 ∧ v11 = .int .i64 x11_2 ∧ Aside0 (slotmeshref26_Add.l0 kq l0 a1 a2 x9_2 x10_2 x11_2 = some (r1, r2, r3)) ∧ Aside0 (kq ≤ kj3) ∧ Aside0 (Kd.V k45 45 w' w.heap.size (fun k_ => (P0_ k_ ∨ w.heap.size ≤ k_) ∧ some k_ ≠ (v9 : Value).ownBlock) (.slice A0 l0.length c0) l0) ∧ Aside0 (Kd.N k45 45 w' w.heap.size (fun k_ => (P0_ k_ ∨ w.heap.size ≤ k_)) v9 x9_2) ∧ Aside0 (Below w.heap.size w w'))
     case atStart => exact ⟨(([] : List (S45))), (false), (0), (by first | rfl | (simp; done) | (simp [*]; done)), (by first | rfl | (simp; done) | (simp [*]; done)), H', ⟨Nat.le_refl _⟩, ⟨by (with_reducible repeat (first | apply Kd.V_alloc | apply Kd.V_drewN | apply Kd.V_drew)); exact Kd.V_mono HO_0.out (fun _ hk => ⟨hk, (by simp [Value.ownBlock])⟩)⟩, ⟨by first | exact Kd.S_nil _ _ _ _ _ | exact Kd.N_nil _ _ _ _ _ | exact Kd.V_nil _ _ _ _ _ | exact Kd.Q_nil _ _ _ _ _ | exact Kd.R_nil _ _ _ _ _⟩, ⟨by repeat (first | (with_reducible first | exact HB.out | apply below_alloc | apply pw_below_drewN | apply below_drew1) | exact HB.out)⟩⟩
     case round =>
      clear H'
      try clear c1
      try clear p2
      try clear c6
      try clear c7
      try clear c7b0
      try clear c9
      try clear c9b0
      try clear c11
      try clear c11b0
      try clear c12
      try clear c14
      try clear c15
      try clear c16
      try clear c17
      try clear p2
      obtain ⟨x9_2, x10_2, x11_2, rfl, rfl, HA, HK2, HO_0, HO_9, HB⟩ := hrel
      cases gk with
      | zero => exact absurd HA.out (by simp [slotmeshref26_Add.l0])
      | succ k2 =>
       have H := HA.out
       clear HA
       simp only [slotmeshref26_Add.l0] at H
       by_cases c20 : x11_2 < (l0.length : Int)
       ·rw [if_pos c20] at H
        have c20b0 : decide (x11_2 < (l0.length : Int)) = true := decide_eq_true c20
        clear c20
        have HC21 := Aside0.mk H
        clear H
        go_upto_region 10 with (fail)
        go_cut [52] (fun v52 wc => ∃ (kq : Nat) (x52_20 : Bool), v52 = .bool x52_20 ∧ Aside0 (slotmeshref26_Add.j2 kq l0 a1 a2 x9_2 x10_2 x11_2 x52_20 = some (r1, r2, r3)) ∧ Aside0 (kq ≤ k2) ∧ Aside0 (Kd.V k45 45 wc w.heap.size (fun k_ => (P0_ k_ ∨ w.heap.size ≤ k_) ∧ some k_ ≠ (u9 : Value).ownBlock) (.slice A0 l0.length c0) l0) ∧ Aside0 (Kd.N k45 45 wc w.heap.size (fun k_ => (P0_ k_ ∨ w.heap.size ≤ k_)) u9 x9_2) ∧ Aside0 (Below w.heap.size w wc))
        case first =>
         have H := HC21.out
         clear HC21
         by_cases c22 : x10_2 = true
         ·subst c22
          have H1 : (slotmeshref26_Add.j2 k2 l0 a1 a2 x9_2 true x11_2 false) = some (r1, r2, r3) := by rw [if_pos rfl] at H; exact H
          clear H
          have H := H1
          clear H1
          have H' := Aside0.mk H
          clear H
          go_wp2
          go_meet
          case rel => exact ⟨_, (false), (by first | rfl | (simp; done) | (simp [*]; done)), H', ⟨by have := HJ3.out; have := HK2.out; first | omega | exact Nat.le_refl _⟩, ⟨by (with_reducible repeat (first | apply Kd.V_alloc | apply Kd.V_drewN | apply Kd.V_drew)); exact HO_0.out⟩, ⟨by (with_reducible repeat (first | apply Kd.N_alloc | apply Kd.N_drewN | apply Kd.N_drew)); exact HO_9.out⟩, ⟨by repeat (first | (with_reducible first | exact HB.out | apply below_alloc | apply pw_below_drewN | apply below_drew1) | exact HB.out)⟩⟩
         ·replace c22 := Bool.eq_false_iff.mpr c22
          subst c22
          have H1 : (if 0 ≤ x11_2 then (slotmeshref26_Add.j2 k2 l0 a1 a2 x9_2 false x11_2 (decide (((rd_T45 l0 x11_2).f0) ≥ a1))) else (none)) = some (r1, r2, r3) := by rw [if_neg (show ¬ (false = true) by decide)] at H; exact H
          clear H
          have H := H1
          clear H1
          by_cases c23 : 0 ≤ x11_2
          ·rw [if_pos c23] at H
           have c23b0 : decide (0 ≤ x11_2) = true := decide_eq_true c23
           clear c23
           (first | rw [c23b0] | (simp only [i64_w, i32_w]; rw [c23b0]) | skip)
           have H' := Aside0.mk H
           clear H
           have p239 : 0 ≤ (x11_2 : Int) := of_decide_eq_true (by first | (with_reducible assumption) | assumption)
           have q239 : x11_2 < (l0.length : Int) := of_decide_eq_true (by first | (with_reducible assumption) | assumption)
           obtain ⟨ad239, A239_1, c239_1, e239, hx239_0, hx239_1, hl239_1, hi239_1⟩ := at_T45 (Kd.V_reads' HO_0.out).2.2 x11_2 p239 q239
           cases e239
           obtain ⟨ce239, hce239, hMe239, hcc239⟩ := Kd.V_get HO_0.out z45 x11_2 p239 (by first | exact q239 | exact of_decide_eq_true (by first | (with_reducible assumption) | assumption) | (have e_ := (Kd.V_reads' HO_0.out).1; omega))
           obtain ⟨ua239_1, uc239_1, rfl, ul239_1, ge239_1⟩ := k45_openF hMe239
           have hv239_1 := hcc239 1 _ rfl
           rw [add_field _ _ 1 (by omega)] at hv239_1
           replace hv239_1 := Option.some.inj (hv239_1.symm.trans hx239_1)
           injection hv239_1 with hva_ hvn_ hvc_
           rw [hva_] at ge239_1
           rw [hvc_] at ul239_1
           have HL239_1 := Aside0.mk (show Kd.V k47 47 _ w.heap.size _ _ ((rd_T45 l0 x11_2).f1) from Kd.V_mk ul239_1 ge239_1)
           clear hva_ hvn_ hvc_ ge239_1 ul239_1
           clear hcc239 hce239
           have HR239_1 := Aside0.mk hi239_1
           have HC239_1 := Aside0.mk hl239_1
           clear hi239_1 hl239_1
           replace p239 := eq_true p239
           replace q239 := eq_true q239
           go_wp2
           go_meet
           case rel => exact ⟨_, (decide (((rd_T45 l0 x11_2).f0) ≥ a1)), (by first | rfl | (simp; done) | (simp [*]; done)), H', ⟨by have := HJ3.out; have := HK2.out; first | omega | exact Nat.le_refl _⟩, ⟨by (with_reducible repeat (first | apply Kd.V_alloc | apply Kd.V_drewN | apply Kd.V_drew)); exact HO_0.out⟩, ⟨by (with_reducible repeat (first | apply Kd.N_alloc | apply Kd.N_drewN | apply Kd.N_drew)); exact HO_9.out⟩, ⟨by repeat (first | (with_reducible first | exact HB.out | apply below_alloc | apply pw_below_drewN | apply below_drew1) | exact HB.out)⟩⟩
          ·rw [if_neg c23] at H
           exact absurd H (by simp)
        case rest =>
         clear HC21
         try clear c1
         try clear c2
         try clear p2
         try clear q2
         try clear hx2
         try clear c6
         try clear c7
         try clear c7b0
         try clear c9
         try clear c9b0
         try clear c11
         try clear c11b0
         try clear c12
         try clear c14
         try clear c15
         try clear c16
         try clear c17
         try clear c20
         try clear c20b0
         try clear c22
         try clear c23
         try clear c23b0
         try clear p23
         try clear q23
         try clear hx23
         try clear hx239_0
         try clear hx239_1
         try clear p2
         try clear p239
         try clear q239
         obtain ⟨kq, x52_20, rfl, HA, HJ20, HO_0, HO_9, HB⟩ := hcut
         cases kq with
         | zero => exact absurd HA.out (by simp [slotmeshref26_Add.j2])
         | succ kj20 =>
          have H := HA.out
          clear HA
          simp only [slotmeshref26_Add.j2] at H
          by_cases c24 : x52_20 = true
          ·subst c24
           have H1 : ((slotmeshref26_Of.f kj20 l0 a1).bind fun t240 => ((slotmeshref26_with.f kj20 t240 a2).bind fun t243 => (if x9_2.length < 4398046511104 then ((some (x9_2 ++ [(⟨a1, t243⟩ : S45)] : List (S45))).bind fun y246 => (if 0 ≤ x11_2 then (if x11_2 < (l0.length : Int) then (if ((rd_T45 l0 x11_2).f0) = a1 then (slotmeshref26_Add.l0 kj20 l0 a1 a2 y246 true (wrap64 (x11_2 + 1))) else (if y246.length < 4398046511104 then (slotmeshref26_Add.l0 kj20 l0 a1 a2 (y246 ++ [(⟨(rd_T45 l0 x11_2).f0, (rd_T45 l0 x11_2).f1⟩ : S45)]) true (wrap64 (x11_2 + 1))) else (none))) else (none)) else (none))) else (none)))) = some (r1, r2, r3) := by rw [if_pos rfl] at H; exact H
           clear H
           have H := H1
           clear H1
           replace H := Option.bind_eq_some_iff.mp H
           obtain ⟨t240, A250, H⟩ := H
           replace H : ((slotmeshref26_with.f kj20 t240 a2).bind fun t243 => (if x9_2.length < 4398046511104 then ((some (x9_2 ++ [(⟨a1, t243⟩ : S45)] : List (S45))).bind fun y246 => (if 0 ≤ x11_2 then (if x11_2 < (l0.length : Int) then (if ((rd_T45 l0 x11_2).f0) = a1 then (slotmeshref26_Add.l0 kj20 l0 a1 a2 y246 true (wrap64 (x11_2 + 1))) else (if y246.length < 4398046511104 then (slotmeshref26_Add.l0 kj20 l0 a1 a2 (y246 ++ [(⟨(rd_T45 l0 x11_2).f0, (rd_T45 l0 x11_2).f1⟩ : S45)]) true (wrap64 (x11_2 + 1))) else (none))) else (none)) else (none))) else (none))) = some (r1, r2, r3) := H
           have A25 := Aside0.mk A250
           clear A250
           replace H := Option.bind_eq_some_iff.mp H
           obtain ⟨t243, A260, H⟩ := H
           replace H : (if x9_2.length < 4398046511104 then ((some (x9_2 ++ [(⟨a1, t243⟩ : S45)] : List (S45))).bind fun y246 => (if 0 ≤ x11_2 then (if x11_2 < (l0.length : Int) then (if ((rd_T45 l0 x11_2).f0) = a1 then (slotmeshref26_Add.l0 kj20 l0 a1 a2 y246 true (wrap64 (x11_2 + 1))) else (if y246.length < 4398046511104 then (slotmeshref26_Add.l0 kj20 l0 a1 a2 (y246 ++ [(⟨(rd_T45 l0 x11_2).f0, (rd_T45 l0 x11_2).f1⟩ : S45)]) true (wrap64 (x11_2 + 1))) else (none))) else (none)) else (none))) else (none)) = some (r1, r2, r3) := H
           have A26 := Aside0.mk A260
           clear A260
           by_cases c27 : x9_2.length < 4398046511104
           ·rw [if_pos c27] at H
            have LMc27 := Aside0.mk c27
            clear c27
            obtain ⟨y246, hy246⟩ : ∃ y_ : List (S45), y_ = (x9_2 ++ [(⟨a1, t243⟩ : S45)]) := ⟨_, rfl⟩
            replace H : (if 0 ≤ x11_2 then (if x11_2 < (l0.length : Int) then (if ((rd_T45 l0 x11_2).f0) = a1 then (slotmeshref26_Add.l0 kj20 l0 a1 a2 y246 true (wrap64 (x11_2 + 1))) else (if y246.length < 4398046511104 then (slotmeshref26_Add.l0 kj20 l0 a1 a2 (y246 ++ [(⟨(rd_T45 l0 x11_2).f0, (rd_T45 l0 x11_2).f1⟩ : S45)]) true (wrap64 (x11_2 + 1))) else (none))) else (none)) else (none)) = some (r1, r2, r3) := by first | (rw [hy246]; with_reducible exact H) | (have H2_ := (Option.bind_some _ _).symm.trans H; rw [hy246]; with_reducible exact H2_) | (have H2_ := (Option.bind_some _ _).symm.trans H; with_reducible exact H2_) | with_reducible exact H | (rw [hy246]; exact H) | exact H
            have Ny246 := Aside0.mk hy246
            clear hy246
            by_cases c28 : 0 ≤ x11_2
            ·rw [if_pos c28] at H
             have c28b0 : decide (0 ≤ x11_2) = true := decide_eq_true c28
             clear c28
             by_cases c29 : x11_2 < (l0.length : Int)
             ·rw [if_pos c29] at H
              have c29b0 : decide (x11_2 < (l0.length : Int)) = true := decide_eq_true c29
              clear c29
              by_cases c30 : ((rd_T45 l0 x11_2).f0) = a1
              ·rw [if_pos c30] at H
               have c30b0 : (((rd_T45 l0 x11_2).f0) == a1) = true := beq_iff_eq.mpr c30
               have c30b1 : (((rd_T45 l0 x11_2).f0) != a1) = false := bne_eq_false_iff_eq.mpr c30
               clear c30
               have H' := Aside0.mk H
               clear H
               go_wp2_with (first | ((with_reducible refine gate_callee (f := 23) rfl ?_); refine goesL_ (some 57) rfl rfl Try.func23 (by kernel_rfl) rfl #[.slice A0 l0.length c0, .int .i64 a1] rfl (by (try simp only [List.map_toArray, List.map_cons, List.map_nil]); first | done | rfl | (simp only [List.length_drop, List.length_take]; rfl)) ?_; (with_reducible refine (slotmeshref26_Of.calls kj20 (fun k_ => ((P0_ k_ ∨ w.heap.size ≤ k_) ∧ some k_ ≠ (u9 : Value).ownBlock)) _ _ l0 a1 t240 _ ?side1 A25.out).mono ?_); (case side1 => exact HO_0.out); rintro e w31 ⟨v241, rfl, ho0, hb⟩; refine ⟨_, rfl, ?_⟩; have n0_ := Aside0.mk (Kd.V_below (by (with_reducible repeat (first | apply Kd.V_alloc | apply Kd.V_drewN | apply Kd.V_drew)); exact HO_0.out) hb); have n1_ := Aside0.mk (Kd.N_below (by (with_reducible repeat (first | apply Kd.N_alloc | apply Kd.N_drewN | apply Kd.N_drew)); exact HO_9.out) hb); have n2_ := Aside0.mk (Kd.V_lower (Kd.V_mono (ok' := fun k_ => (P0_ k_ ∨ w.heap.size ≤ k_) ∧ some k_ ≠ (u9 : Value).ownBlock) ho0 (fun k_ hk_ => ⟨Or.elim hk_ (fun hs_ => hs_.1) (fun hn_ => (.inr (Nat.le_trans (below_size (by repeat (first | (with_reducible first | exact HB.out | apply below_alloc | apply pw_below_drewN | apply below_drew1) | exact HB.out))) hn_))), Or.elim hk_ (fun hs_ => hs_.2) (fun hn_ => (Kd.fresh' (Kd.N_lt (by (with_reducible repeat (first | apply Kd.N_alloc | apply Kd.N_drewN | apply Kd.N_drew)); exact HO_9.out)) k_ hn_))⟩)) (below_size (by repeat (first | (with_reducible first | exact HB.out | apply below_alloc | apply pw_below_drewN | apply below_drew1) | exact HB.out)))); have n3_ := Aside0.mk (below_step (by repeat (first | (with_reducible first | exact HB.out | apply below_alloc | apply pw_below_drewN | apply below_drew1) | exact HB.out)) hb); clear HO_0; clear HO_9; clear HB; have HO_0 := n0_; have HO_9 := n1_; have HO242 := n2_; have HB := n3_; clear n0_ n1_ n2_ n3_; (try clear hb); (try clear hb2); (try clear hk); (try clear hi); (try clear ho0); obtain ⟨Ao32, co32, eo32⟩ := Kd.V_slice HO242.out; subst eo32) | ((with_reducible refine gate_callee (f := 37) rfl ?_); refine goesL_ (some 59) rfl rfl Try.func37 (by kernel_rfl) rfl #[.slice Ao32 t240.length co32, .int .i64 a2] rfl (by (try simp only [List.map_toArray, List.map_cons, List.map_nil]); first | done | rfl | (simp only [List.length_drop, List.length_take]; rfl)) ?_; (with_reducible refine (slotmeshref26_with.calls kj20 _ _ t240 a2 t243 _ ?side1 ?side2 A26.out).mono ?_); (case side1 => repeat (first | exact (Kd.V_reads' HO242.out).2.2 | (with_reducible refine Kd.C_alloc ?_ _) | (with_reducible refine Kd.C_drewN ?_ _) | (with_reducible refine Kd.C_drew ?_))); (case side2 => exact (Kd.V_reads' HO242.out).2.1); rintro e w33 ⟨v244, rfl, ho0, hb⟩; refine ⟨_, rfl, ?_⟩; have n0_ := Aside0.mk (Kd.V_elder' (by (with_reducible repeat (first | apply Kd.V_alloc | apply Kd.V_drewN | apply Kd.V_drew)); exact HO_0.out) (Kd.R_base ho0) hb); have n1_ := Aside0.mk (Kd.N_elder' (by (with_reducible repeat (first | apply Kd.N_alloc | apply Kd.N_drewN | apply Kd.N_drew)); exact HO_9.out) (Kd.R_base ho0) hb); have n2_ := Aside0.mk (Kd.V_elder' (by (with_reducible repeat (first | apply Kd.V_alloc | apply Kd.V_drewN | apply Kd.V_drew)); exact HO242.out) (Kd.R_base ho0) hb); have n3_ := Aside0.mk (Kd.R_lower (Kd.R_newM (M := fun k_ => (w.heap.size ≤ k_)) ho0 (below_size (by repeat (first | (with_reducible first | exact HB.out | apply below_alloc | apply pw_below_drewN | apply below_drew1) | exact HB.out))) (fun k_ h_ => h_)) (below_size (by repeat (first | (with_reducible first | exact HB.out | apply below_alloc | apply pw_below_drewN | apply below_drew1) | exact HB.out)))); have n4_ := Aside0.mk (below_step (by repeat (first | (with_reducible first | exact HB.out | apply below_alloc | apply pw_below_drewN | apply below_drew1) | exact HB.out)) hb); clear HO_0; clear HO_9; clear HO242; clear HB; have HO_0 := n0_; have HO_9 := n1_; have HO242 := n2_; have HO245 := n3_; have HB := n4_; clear n0_ n1_ n2_ n3_ n4_; (try clear hb); (try clear hb2); (try clear hk); (try clear hi); (try clear ho0); obtain ⟨Ao34, co34, eo34⟩ := Kd.R_slice HO245.out; subst eo34) | ((with_reducible refine gate_builtin (b := .append) (xs := #[.tmp 53, .tmp 61]) rfl ?_); at_builtin; refine Kd.N_append k45 (w0 := w) w.heap.size rfl (.tmp 53) (.tmp 61) 22 45 (.agg #[(.int .i64 0), (.slice none 0 0)]) 32 rfl Try.underlying22 info45 rfl (by decide) (by omega) u9 x9_2 (⟨a1, t243⟩ : S45) [.int .i64 a1, .slice Ao34 t243.length co34] (fun k_ => (P0_ k_ ∨ w.heap.size ≤ k_)) (fun k_ => ((fun k_ => (P0_ k_ ∨ w.heap.size ≤ k_))) k_ ∧ some k_ ≠ (u9 : Value).ownBlock) rfl rfl ?aP (fun _ hk => hk) ?aF ?aO ?aB ?aS ?aL ?_; (case aP => exact (k45_mkF _ _ (⟨a1, t243⟩ : S45) (Kd.R_reads' (Kd.R_mono (ok' := (fun k_ => ((fun k_ => (P0_ k_ ∨ w.heap.size ≤ k_))) k_ ∧ some k_ ≠ (u9 : Value).ownBlock)) (Kd.R_apart' (HO245.out) (Kd.N_typed HO_9.out) (by decide)) (fun k_ hk => ⟨(.inr (hk.1.1)), hk.2⟩))).2.1 (Kd.R_F (Kd.R_mono (ok' := (fun k_ => ((fun k_ => (P0_ k_ ∨ w.heap.size ≤ k_))) k_ ∧ some k_ ≠ (u9 : Value).ownBlock)) (Kd.R_apart' (HO245.out) (Kd.N_typed HO_9.out) (by decide)) (fun k_ hk => ⟨(.inr (hk.1.1)), hk.2⟩))))); (case aB => exact (by repeat (first | (with_reducible first | exact HB.out | apply below_alloc | apply pw_below_drewN | apply below_drew1) | exact HB.out))); (case aF => exact (fun k_ hk => (.inr (Nat.le_trans (below_size (by repeat (first | (with_reducible first | exact HB.out | apply below_alloc | apply pw_below_drewN | apply below_drew1) | exact HB.out))) hk)))); (case aO => exact (by (with_reducible repeat (first | apply Kd.N_alloc | apply Kd.N_drewN | apply Kd.N_drew)); exact Kd.N_mono HO_9.out (fun _ hk => hk.1))); (case aS => exact (below_size (by repeat (first | (with_reducible first | exact HB.out | apply below_alloc | apply pw_below_drewN | apply below_drew1) | exact HB.out)))); (case aL => have := LMc27.out; omega); intro v247 w35 ho hb hg hat; rw [← Ny246.out] at ho; have n0_ := Aside0.mk (Kd.V_afterv (ok := (fun k_ => (P0_ k_ ∨ w.heap.size ≤ k_) ∧ some k_ ≠ (.slice Ao34 t243.length co34 : Value).ownBlock)) (by (with_reducible repeat (first | apply Kd.V_alloc | apply Kd.V_drewN | apply Kd.V_drew)); exact Kd.V_mono HO_0.out (fun _ hk => ⟨⟨hk.1.1, hk.2⟩, hk.1.2⟩)) hg hat); have n1_ := Aside0.mk (Kd.V_afterv (ok := (fun k_ => (P0_ k_ ∨ w.heap.size ≤ k_) ∧ some k_ ≠ (.slice Ao34 t243.length co34 : Value).ownBlock)) (by (with_reducible repeat (first | apply Kd.V_alloc | apply Kd.V_drewN | apply Kd.V_drew)); exact Kd.V_mono HO242.out (fun _ hk => ⟨⟨hk.1.1, hk.2⟩, hk.1.2⟩)) hg hat); have n2_ := Aside0.mk (hb); have n3_ := Aside0.mk (ho); clear HO_0; clear HO242; clear HB; clear HO_9; clear HO245; have HO_0 := n0_; have HO242 := n1_; have HB := n2_; have HO248 := n3_; clear n0_ n1_ n2_ n3_; clear ho hb hg hat; have p249 : 0 ≤ (x11_2 : Int) := of_decide_eq_true (by first | (with_reducible assumption) | assumption); have q249 : x11_2 < (l0.length : Int) := of_decide_eq_true (by first | (with_reducible assumption) | assumption); obtain ⟨ad249, A249_1, c249_1, e249, hx249_0, hx249_1, hl249_1, hi249_1⟩ := at_T45 (Kd.V_reads' HO_0.out).2.2 x11_2 p249 q249; cases e249; obtain ⟨ce249, hce249, hMe249, hcc249⟩ := Kd.V_get HO_0.out z45 x11_2 p249 (by first | exact q249 | exact of_decide_eq_true (by first | (with_reducible assumption) | assumption) | (have e_ := (Kd.V_reads' HO_0.out).1; omega)); obtain ⟨ua249_1, uc249_1, rfl, ul249_1, ge249_1⟩ := k45_openF hMe249; have hv249_1 := hcc249 1 _ rfl; rw [add_field _ _ 1 (by omega)] at hv249_1; replace hv249_1 := Option.some.inj (hv249_1.symm.trans hx249_1); injection hv249_1 with hva_ hvn_ hvc_; rw [hva_] at ge249_1; rw [hvc_] at ul249_1; have HL249_1 := Aside0.mk (show Kd.V k47 47 _ w.heap.size _ _ ((rd_T45 l0 x11_2).f1) from Kd.V_mk ul249_1 ge249_1); clear hva_ hvn_ hvc_ ge249_1 ul249_1; clear hcc249 hce249; have HR249_1 := Aside0.mk hi249_1; have HC249_1 := Aside0.mk hl249_1; clear hi249_1 hl249_1; replace p249 := eq_true p249; replace q249 := eq_true q249))
               go_roundg kj20
               case measure => have := HJ3.out; have := HK2.out; have := HJ20.out; omega
               case rel => exact ⟨(y246), (true), (wrap64 (x11_2 + 1)), (by first | rfl | (simp; done) | (simp [*]; done)), (by first | rfl | (simp; done) | (simp [*]; done)), H', ⟨by have := HJ3.out; have := HK2.out; have := HJ20.out; omega⟩, ⟨by (with_reducible repeat (first | apply Kd.V_alloc | apply Kd.V_drewN | apply Kd.V_drew)); exact Kd.V_mono HO_0.out (fun _ hk => ⟨hk.1.1, hk.2⟩)⟩, ⟨by (with_reducible repeat (first | apply Kd.N_alloc | apply Kd.N_drewN | apply Kd.N_drew)); exact HO248.out⟩, ⟨by repeat (first | (with_reducible first | exact HB.out | apply below_alloc | apply pw_below_drewN | apply below_drew1) | exact HB.out)⟩⟩
              ·rw [if_neg c30] at H
               have c30b0 : (((rd_T45 l0 x11_2).f0) == a1) = false := beq_eq_false_iff_ne.mpr c30
               have c30b1 : (((rd_T45 l0 x11_2).f0) != a1) = true := bne_iff_ne.mpr c30
               by_cases c36 : y246.length < 4398046511104
               ·rw [if_pos c36] at H
                have LMc36 := Aside0.mk c36
                clear c36
                obtain ⟨y251, hy251⟩ : ∃ y_ : List (S45), y_ = (y246 ++ [(⟨(rd_T45 l0 x11_2).f0, (rd_T45 l0 x11_2).f1⟩ : S45)]) := ⟨_, rfl⟩
                replace H : (slotmeshref26_Add.l0 kj20 l0 a1 a2 y251 true (wrap64 (x11_2 + 1))) = some (r1, r2, r3) := by first | (rw [hy251]; with_reducible exact H) | (have H2_ := (Option.bind_some _ _).symm.trans H; rw [hy251]; with_reducible exact H2_) | (have H2_ := (Option.bind_some _ _).symm.trans H; with_reducible exact H2_) | with_reducible exact H | (rw [hy251]; exact H) | exact H
                have Ny251 := Aside0.mk hy251
                clear hy251
                have H' := Aside0.mk H
                clear H
                go_wp2_with (first | ((with_reducible refine gate_callee (f := 23) rfl ?_); refine goesL_ (some 57) rfl rfl Try.func23 (by kernel_rfl) rfl #[.slice A0 l0.length c0, .int .i64 a1] rfl (by (try simp only [List.map_toArray, List.map_cons, List.map_nil]); first | done | rfl | (simp only [List.length_drop, List.length_take]; rfl)) ?_; (with_reducible refine (slotmeshref26_Of.calls kj20 (fun k_ => ((P0_ k_ ∨ w.heap.size ≤ k_) ∧ some k_ ≠ (u9 : Value).ownBlock)) _ _ l0 a1 t240 _ ?side1 A25.out).mono ?_); (case side1 => exact HO_0.out); rintro e w37 ⟨v241, rfl, ho0, hb⟩; refine ⟨_, rfl, ?_⟩; have n0_ := Aside0.mk (Kd.V_below (by (with_reducible repeat (first | apply Kd.V_alloc | apply Kd.V_drewN | apply Kd.V_drew)); exact HO_0.out) hb); have n1_ := Aside0.mk (Kd.N_below (by (with_reducible repeat (first | apply Kd.N_alloc | apply Kd.N_drewN | apply Kd.N_drew)); exact HO_9.out) hb); have n2_ := Aside0.mk (Kd.V_lower (Kd.V_mono (ok' := fun k_ => (P0_ k_ ∨ w.heap.size ≤ k_) ∧ some k_ ≠ (u9 : Value).ownBlock) ho0 (fun k_ hk_ => ⟨Or.elim hk_ (fun hs_ => hs_.1) (fun hn_ => (.inr (Nat.le_trans (below_size (by repeat (first | (with_reducible first | exact HB.out | apply below_alloc | apply pw_below_drewN | apply below_drew1) | exact HB.out))) hn_))), Or.elim hk_ (fun hs_ => hs_.2) (fun hn_ => (Kd.fresh' (Kd.N_lt (by (with_reducible repeat (first | apply Kd.N_alloc | apply Kd.N_drewN | apply Kd.N_drew)); exact HO_9.out)) k_ hn_))⟩)) (below_size (by repeat (first | (with_reducible first | exact HB.out | apply below_alloc | apply pw_below_drewN | apply below_drew1) | exact HB.out)))); have n3_ := Aside0.mk (below_step (by repeat (first | (with_reducible first | exact HB.out | apply below_alloc | apply pw_below_drewN | apply below_drew1) | exact HB.out)) hb); clear HO_0; clear HO_9; clear HB; have HO_0 := n0_; have HO_9 := n1_; have HO242 := n2_; have HB := n3_; clear n0_ n1_ n2_ n3_; (try clear hb); (try clear hb2); (try clear hk); (try clear hi); (try clear ho0); obtain ⟨Ao38, co38, eo38⟩ := Kd.V_slice HO242.out; subst eo38) | ((with_reducible refine gate_callee (f := 37) rfl ?_); refine goesL_ (some 59) rfl rfl Try.func37 (by kernel_rfl) rfl #[.slice Ao38 t240.length co38, .int .i64 a2] rfl (by (try simp only [List.map_toArray, List.map_cons, List.map_nil]); first | done | rfl | (simp only [List.length_drop, List.length_take]; rfl)) ?_; (with_reducible refine (slotmeshref26_with.calls kj20 _ _ t240 a2 t243 _ ?side1 ?side2 A26.out).mono ?_); (case side1 => repeat (first | exact (Kd.V_reads' HO242.out).2.2 | (with_reducible refine Kd.C_alloc ?_ _) | (with_reducible refine Kd.C_drewN ?_ _) | (with_reducible refine Kd.C_drew ?_))); (case side2 => exact (Kd.V_reads' HO242.out).2.1); rintro e w39 ⟨v244, rfl, ho0, hb⟩; refine ⟨_, rfl, ?_⟩; have n0_ := Aside0.mk (Kd.V_elder' (by (with_reducible repeat (first | apply Kd.V_alloc | apply Kd.V_drewN | apply Kd.V_drew)); exact HO_0.out) (Kd.R_base ho0) hb); have n1_ := Aside0.mk (Kd.N_elder' (by (with_reducible repeat (first | apply Kd.N_alloc | apply Kd.N_drewN | apply Kd.N_drew)); exact HO_9.out) (Kd.R_base ho0) hb); have n2_ := Aside0.mk (Kd.V_elder' (by (with_reducible repeat (first | apply Kd.V_alloc | apply Kd.V_drewN | apply Kd.V_drew)); exact HO242.out) (Kd.R_base ho0) hb); have n3_ := Aside0.mk (Kd.R_lower (Kd.R_newM (M := fun k_ => (w.heap.size ≤ k_)) ho0 (below_size (by repeat (first | (with_reducible first | exact HB.out | apply below_alloc | apply pw_below_drewN | apply below_drew1) | exact HB.out))) (fun k_ h_ => h_)) (below_size (by repeat (first | (with_reducible first | exact HB.out | apply below_alloc | apply pw_below_drewN | apply below_drew1) | exact HB.out)))); have n4_ := Aside0.mk (below_step (by repeat (first | (with_reducible first | exact HB.out | apply below_alloc | apply pw_below_drewN | apply below_drew1) | exact HB.out)) hb); clear HO_0; clear HO_9; clear HO242; clear HB; have HO_0 := n0_; have HO_9 := n1_; have HO242 := n2_; have HO245 := n3_; have HB := n4_; clear n0_ n1_ n2_ n3_ n4_; (try clear hb); (try clear hb2); (try clear hk); (try clear hi); (try clear ho0); obtain ⟨Ao40, co40, eo40⟩ := Kd.R_slice HO245.out; subst eo40) | ((with_reducible refine gate_builtin (b := .append) (xs := #[.tmp 53, .tmp 61]) rfl ?_); at_builtin; refine Kd.N_append k45 (w0 := w) w.heap.size rfl (.tmp 53) (.tmp 61) 22 45 (.agg #[(.int .i64 0), (.slice none 0 0)]) 32 rfl Try.underlying22 info45 rfl (by decide) (by omega) u9 x9_2 (⟨a1, t243⟩ : S45) [.int .i64 a1, .slice Ao40 t243.length co40] (fun k_ => (P0_ k_ ∨ w.heap.size ≤ k_)) (fun k_ => ((fun k_ => (P0_ k_ ∨ w.heap.size ≤ k_))) k_ ∧ some k_ ≠ (u9 : Value).ownBlock) rfl rfl ?aP (fun _ hk => hk) ?aF ?aO ?aB ?aS ?aL ?_; (case aP => exact (k45_mkF _ _ (⟨a1, t243⟩ : S45) (Kd.R_reads' (Kd.R_mono (ok' := (fun k_ => ((fun k_ => (P0_ k_ ∨ w.heap.size ≤ k_))) k_ ∧ some k_ ≠ (u9 : Value).ownBlock)) (Kd.R_apart' (HO245.out) (Kd.N_typed HO_9.out) (by decide)) (fun k_ hk => ⟨(.inr (hk.1.1)), hk.2⟩))).2.1 (Kd.R_F (Kd.R_mono (ok' := (fun k_ => ((fun k_ => (P0_ k_ ∨ w.heap.size ≤ k_))) k_ ∧ some k_ ≠ (u9 : Value).ownBlock)) (Kd.R_apart' (HO245.out) (Kd.N_typed HO_9.out) (by decide)) (fun k_ hk => ⟨(.inr (hk.1.1)), hk.2⟩))))); (case aB => exact (by repeat (first | (with_reducible first | exact HB.out | apply below_alloc | apply pw_below_drewN | apply below_drew1) | exact HB.out))); (case aF => exact (fun k_ hk => (.inr (Nat.le_trans (below_size (by repeat (first | (with_reducible first | exact HB.out | apply below_alloc | apply pw_below_drewN | apply below_drew1) | exact HB.out))) hk)))); (case aO => exact (by (with_reducible repeat (first | apply Kd.N_alloc | apply Kd.N_drewN | apply Kd.N_drew)); exact Kd.N_mono HO_9.out (fun _ hk => hk.1))); (case aS => exact (below_size (by repeat (first | (with_reducible first | exact HB.out | apply below_alloc | apply pw_below_drewN | apply below_drew1) | exact HB.out)))); (case aL => have := LMc27.out; omega); intro v247 w41 ho hb hg hat; rw [← Ny246.out] at ho; have n0_ := Aside0.mk (Kd.V_afterv (ok := (fun k_ => (P0_ k_ ∨ w.heap.size ≤ k_) ∧ some k_ ≠ (.slice Ao40 t243.length co40 : Value).ownBlock)) (by (with_reducible repeat (first | apply Kd.V_alloc | apply Kd.V_drewN | apply Kd.V_drew)); exact Kd.V_mono HO_0.out (fun _ hk => ⟨⟨hk.1.1, hk.2⟩, hk.1.2⟩)) hg hat); have n1_ := Aside0.mk (Kd.V_afterv (ok := (fun k_ => (P0_ k_ ∨ w.heap.size ≤ k_) ∧ some k_ ≠ (.slice Ao40 t243.length co40 : Value).ownBlock)) (by (with_reducible repeat (first | apply Kd.V_alloc | apply Kd.V_drewN | apply Kd.V_drew)); exact Kd.V_mono HO242.out (fun _ hk => ⟨⟨hk.1.1, hk.2⟩, hk.1.2⟩)) hg hat); have n2_ := Aside0.mk (hb); have n3_ := Aside0.mk (ho); clear HO_0; clear HO242; clear HB; clear HO_9; clear HO245; have HO_0 := n0_; have HO242 := n1_; have HB := n2_; have HO248 := n3_; clear n0_ n1_ n2_ n3_; clear ho hb hg hat; have p249 : 0 ≤ (x11_2 : Int) := of_decide_eq_true (by first | (with_reducible assumption) | assumption); have q249 : x11_2 < (l0.length : Int) := of_decide_eq_true (by first | (with_reducible assumption) | assumption); obtain ⟨ad249, A249_1, c249_1, e249, hx249_0, hx249_1, hl249_1, hi249_1⟩ := at_T45 (Kd.V_reads' HO_0.out).2.2 x11_2 p249 q249; cases e249; obtain ⟨ce249, hce249, hMe249, hcc249⟩ := Kd.V_get HO_0.out z45 x11_2 p249 (by first | exact q249 | exact of_decide_eq_true (by first | (with_reducible assumption) | assumption) | (have e_ := (Kd.V_reads' HO_0.out).1; omega)); obtain ⟨ua249_1, uc249_1, rfl, ul249_1, ge249_1⟩ := k45_openF hMe249; have hv249_1 := hcc249 1 _ rfl; rw [add_field _ _ 1 (by omega)] at hv249_1; replace hv249_1 := Option.some.inj (hv249_1.symm.trans hx249_1); injection hv249_1 with hva_ hvn_ hvc_; rw [hva_] at ge249_1; rw [hvc_] at ul249_1; have HL249_1 := Aside0.mk (show Kd.V k47 47 _ w.heap.size _ _ ((rd_T45 l0 x11_2).f1) from Kd.V_mk ul249_1 ge249_1); clear hva_ hvn_ hvc_ ge249_1 ul249_1; clear hcc249 hce249; have HR249_1 := Aside0.mk hi249_1; have HC249_1 := Aside0.mk hl249_1; clear hi249_1 hl249_1; replace p249 := eq_true p249; replace q249 := eq_true q249; have p250 : 0 ≤ (x11_2 : Int) := of_decide_eq_true (by first | (with_reducible assumption) | assumption); have q250 : x11_2 < (l0.length : Int) := of_decide_eq_true (by first | (with_reducible assumption) | assumption); obtain ⟨ad250, A250_1, c250_1, e250, hx250_0, hx250_1, hl250_1, hi250_1⟩ := at_T45 (Kd.V_reads' HO_0.out).2.2 x11_2 p250 q250; obtain rfl : ad249 = ad250 := (by injection e250); obtain ⟨ce250, hce250, hMe250, hcc250⟩ := Kd.V_get HO_0.out z45 x11_2 p250 (by first | exact q250 | exact of_decide_eq_true (by first | (with_reducible assumption) | assumption) | (have e_ := (Kd.V_reads' HO_0.out).1; omega)); obtain ⟨ua250_1, uc250_1, rfl, ul250_1, ge250_1⟩ := k45_openF hMe250; have hv250_1 := hcc250 1 _ rfl; rw [add_field _ _ 1 (by omega)] at hv250_1; replace hv250_1 := Option.some.inj (hv250_1.symm.trans hx250_1); injection hv250_1 with hva_ hvn_ hvc_; rw [hva_] at ge250_1; rw [hvc_] at ul250_1; have HL250_1 := Aside0.mk (show Kd.V k47 47 _ w.heap.size _ _ ((rd_T45 l0 x11_2).f1) from Kd.V_mk ul250_1 ge250_1); clear hva_ hvn_ hvc_ ge250_1 ul250_1; clear hcc250 hce250; have HR250_1 := Aside0.mk hi250_1; have HC250_1 := Aside0.mk hl250_1; clear hi250_1 hl250_1; replace p250 := eq_true p250; replace q250 := eq_true q250; have ea_ := Option.some.inj (hx249_1.symm.trans hx250_1); injection ea_ with ea_ en_ ec_; subst ea_; subst ec_; clear en_) | ((with_reducible refine gate_builtin (b := .append) (xs := #[.tmp 70, .tmp 75]) rfl ?_); at_builtin; refine Kd.N_append k45 (w0 := w) w.heap.size rfl (.tmp 70) (.tmp 75) 22 45 (.agg #[(.int .i64 0), (.slice none 0 0)]) 32 rfl Try.underlying22 info45 rfl (by decide) (by omega) v247 y246 (⟨(rd_T45 l0 x11_2).f0, (rd_T45 l0 x11_2).f1⟩ : S45) [.int .i64 ((rd_T45 l0 x11_2).f0), .slice A249_1 ((rd_T45 l0 x11_2).f1).length c249_1] (fun k_ => (P0_ k_ ∨ w.heap.size ≤ k_)) (fun k_ => ((fun k_ => (P0_ k_ ∨ w.heap.size ≤ k_))) k_ ∧ some k_ ≠ (v247 : Value).ownBlock) rfl rfl ?aP (fun _ hk => hk) ?aF ?aO ?aB ?aS ?aL ?_; (case aP => exact (k45_mkF _ _ (⟨(rd_T45 l0 x11_2).f0, (rd_T45 l0 x11_2).f1⟩ : S45) (Kd.V_reads' (Kd.V_mono (ok' := (fun k_ => ((fun k_ => (P0_ k_ ∨ w.heap.size ≤ k_))) k_ ∧ some k_ ≠ (v247 : Value).ownBlock)) (HL250_1.out) (fun k_ hk => ⟨hk.1.1, hk.2⟩))).2.1 (Kd.V_F (Kd.V_mono (ok' := (fun k_ => ((fun k_ => (P0_ k_ ∨ w.heap.size ≤ k_))) k_ ∧ some k_ ≠ (v247 : Value).ownBlock)) (HL250_1.out) (fun k_ hk => ⟨hk.1.1, hk.2⟩))))); (case aB => exact (by repeat (first | (with_reducible first | exact HB.out | apply below_alloc | apply pw_below_drewN | apply below_drew1) | exact HB.out))); (case aF => exact (fun k_ hk => (.inr (Nat.le_trans (below_size (by repeat (first | (with_reducible first | exact HB.out | apply below_alloc | apply pw_below_drewN | apply below_drew1) | exact HB.out))) hk)))); (case aO => exact (by (with_reducible repeat (first | apply Kd.N_alloc | apply Kd.N_drewN | apply Kd.N_drew)); exact HO248.out)); (case aS => exact (below_size (by repeat (first | (with_reducible first | exact HB.out | apply below_alloc | apply pw_below_drewN | apply below_drew1) | exact HB.out)))); (case aL => have := LMc36.out; omega); intro v252 w42 ho hb hg hat; rw [← Ny251.out] at ho; have n0_ := Aside0.mk (Kd.V_afterv (ok := (fun k_ => (P0_ k_ ∨ w.heap.size ≤ k_))) (by (with_reducible repeat (first | apply Kd.V_alloc | apply Kd.V_drewN | apply Kd.V_drew)); exact Kd.V_mono HO_0.out (fun _ hk => ⟨hk.1.1, hk.2⟩)) hg hat); have n1_ := Aside0.mk (Kd.V_afterv (ok := (fun k_ => (P0_ k_ ∨ w.heap.size ≤ k_))) (by (with_reducible repeat (first | apply Kd.V_alloc | apply Kd.V_drewN | apply Kd.V_drew)); exact Kd.V_mono HO242.out (fun _ hk => ⟨hk.1.1, hk.2⟩)) hg hat); have n2_ := Aside0.mk (Kd.V_afterv (ok := (fun k_ => (P0_ k_ ∨ w.heap.size ≤ k_))) (by (with_reducible repeat (first | apply Kd.V_alloc | apply Kd.V_drewN | apply Kd.V_drew)); exact Kd.V_mono HL249_1.out (fun _ hk => ⟨hk.1.1, hk.2⟩)) hg hat); have n3_ := Aside0.mk (Kd.V_afterv (ok := (fun k_ => (P0_ k_ ∨ w.heap.size ≤ k_))) (by (with_reducible repeat (first | apply Kd.V_alloc | apply Kd.V_drewN | apply Kd.V_drew)); exact Kd.V_mono HL250_1.out (fun _ hk => ⟨hk.1.1, hk.2⟩)) hg hat); have n4_ := Aside0.mk (hb); have n5_ := Aside0.mk (ho); clear HO_0; clear HO242; clear HL249_1; clear HL250_1; clear HB; clear HO248; have HO_0 := n0_; have HO242 := n1_; have HL249_1 := n2_; have HL250_1 := n3_; have HB := n4_; have HO253 := n5_; clear n0_ n1_ n2_ n3_ n4_ n5_; clear ho hb hg hat))
                go_roundg kj20
                case measure => have := HJ3.out; have := HK2.out; have := HJ20.out; omega
                case rel => exact ⟨(y251), (true), (wrap64 (x11_2 + 1)), (by first | rfl | (simp; done) | (simp [*]; done)), (by first | rfl | (simp; done) | (simp [*]; done)), H', ⟨by have := HJ3.out; have := HK2.out; have := HJ20.out; omega⟩, ⟨by (with_reducible repeat (first | apply Kd.V_alloc | apply Kd.V_drewN | apply Kd.V_drew)); exact HO_0.out⟩, ⟨by (with_reducible repeat (first | apply Kd.N_alloc | apply Kd.N_drewN | apply Kd.N_drew)); exact HO253.out⟩, ⟨by repeat (first | (with_reducible first | exact HB.out | apply below_alloc | apply pw_below_drewN | apply below_drew1) | exact HB.out)⟩⟩
               ·rw [if_neg c36] at H
                exact absurd H (by simp)
             ·rw [if_neg c29] at H
              exact absurd H (by simp)
            ·rw [if_neg c28] at H
             exact absurd H (by simp)
           ·rw [if_neg c27] at H
            exact absurd H (by simp)
          ·replace c24 := Bool.eq_false_iff.mpr c24
           subst c24
           have H1 : (if 0 ≤ x11_2 then (if x11_2 < (l0.length : Int) then (if ((rd_T45 l0 x11_2).f0) = a1 then (slotmeshref26_Add.l0 kj20 l0 a1 a2 x9_2 x10_2 (wrap64 (x11_2 + 1))) else (if x9_2.length < 4398046511104 then (slotmeshref26_Add.l0 kj20 l0 a1 a2 (x9_2 ++ [(⟨(rd_T45 l0 x11_2).f0, (rd_T45 l0 x11_2).f1⟩ : S45)]) x10_2 (wrap64 (x11_2 + 1))) else (none))) else (none)) else (none)) = some (r1, r2, r3) := by rw [if_neg (show ¬ (false = true) by decide)] at H; exact H
           clear H
           have H := H1
           clear H1
           by_cases c43 : 0 ≤ x11_2
           ·rw [if_pos c43] at H
            have c43b0 : decide (0 ≤ x11_2) = true := decide_eq_true c43
            clear c43
            by_cases c44 : x11_2 < (l0.length : Int)
            ·rw [if_pos c44] at H
             have c44b0 : decide (x11_2 < (l0.length : Int)) = true := decide_eq_true c44
             clear c44
             by_cases c45 : ((rd_T45 l0 x11_2).f0) = a1
             ·rw [if_pos c45] at H
              have c45b0 : (((rd_T45 l0 x11_2).f0) == a1) = true := beq_iff_eq.mpr c45
              have c45b1 : (((rd_T45 l0 x11_2).f0) != a1) = false := bne_eq_false_iff_eq.mpr c45
              clear c45
              have H' := Aside0.mk H
              clear H
              have p254 : 0 ≤ (x11_2 : Int) := of_decide_eq_true (by first | (with_reducible assumption) | assumption)
              have q254 : x11_2 < (l0.length : Int) := of_decide_eq_true (by first | (with_reducible assumption) | assumption)
              obtain ⟨ad254, A254_1, c254_1, e254, hx254_0, hx254_1, hl254_1, hi254_1⟩ := at_T45 (Kd.V_reads' HO_0.out).2.2 x11_2 p254 q254
              cases e254
              obtain ⟨ce254, hce254, hMe254, hcc254⟩ := Kd.V_get HO_0.out z45 x11_2 p254 (by first | exact q254 | exact of_decide_eq_true (by first | (with_reducible assumption) | assumption) | (have e_ := (Kd.V_reads' HO_0.out).1; omega))
              obtain ⟨ua254_1, uc254_1, rfl, ul254_1, ge254_1⟩ := k45_openF hMe254
              have hv254_1 := hcc254 1 _ rfl
              rw [add_field _ _ 1 (by omega)] at hv254_1
              replace hv254_1 := Option.some.inj (hv254_1.symm.trans hx254_1)
              injection hv254_1 with hva_ hvn_ hvc_
              rw [hva_] at ge254_1
              rw [hvc_] at ul254_1
              have HL254_1 := Aside0.mk (show Kd.V k47 47 _ w.heap.size _ _ ((rd_T45 l0 x11_2).f1) from Kd.V_mk ul254_1 ge254_1)
              clear hva_ hvn_ hvc_ ge254_1 ul254_1
              clear hcc254 hce254
              have HR254_1 := Aside0.mk hi254_1
              have HC254_1 := Aside0.mk hl254_1
              clear hi254_1 hl254_1
              replace p254 := eq_true p254
              replace q254 := eq_true q254
              go_wp2
              go_roundg kj20
              case measure => have := HJ3.out; have := HK2.out; have := HJ20.out; omega
              case rel => exact ⟨(x9_2), (x10_2), (wrap64 (x11_2 + 1)), (by first | rfl | (simp; done) | (simp [*]; done)), (by first | rfl | (simp; done) | (simp [*]; done)), H', ⟨by have := HJ3.out; have := HK2.out; have := HJ20.out; omega⟩, ⟨by (with_reducible repeat (first | apply Kd.V_alloc | apply Kd.V_drewN | apply Kd.V_drew)); exact HO_0.out⟩, ⟨by (with_reducible repeat (first | apply Kd.N_alloc | apply Kd.N_drewN | apply Kd.N_drew)); exact HO_9.out⟩, ⟨by repeat (first | (with_reducible first | exact HB.out | apply below_alloc | apply pw_below_drewN | apply below_drew1) | exact HB.out)⟩⟩
             ·rw [if_neg c45] at H
              have c45b0 : (((rd_T45 l0 x11_2).f0) == a1) = false := beq_eq_false_iff_ne.mpr c45
              have c45b1 : (((rd_T45 l0 x11_2).f0) != a1) = true := bne_iff_ne.mpr c45
              by_cases c46 : x9_2.length < 4398046511104
              ·rw [if_pos c46] at H
               have LMc46 := Aside0.mk c46
               clear c46
               obtain ⟨y256, hy256⟩ : ∃ y_ : List (S45), y_ = (x9_2 ++ [(⟨(rd_T45 l0 x11_2).f0, (rd_T45 l0 x11_2).f1⟩ : S45)]) := ⟨_, rfl⟩
               replace H : (slotmeshref26_Add.l0 kj20 l0 a1 a2 y256 x10_2 (wrap64 (x11_2 + 1))) = some (r1, r2, r3) := by first | (rw [hy256]; with_reducible exact H) | (have H2_ := (Option.bind_some _ _).symm.trans H; rw [hy256]; with_reducible exact H2_) | (have H2_ := (Option.bind_some _ _).symm.trans H; with_reducible exact H2_) | with_reducible exact H | (rw [hy256]; exact H) | exact H
               have Ny256 := Aside0.mk hy256
               clear hy256
               have H' := Aside0.mk H
               clear H
               have p254 : 0 ≤ (x11_2 : Int) := of_decide_eq_true (by first | (with_reducible assumption) | assumption)
               have q254 : x11_2 < (l0.length : Int) := of_decide_eq_true (by first | (with_reducible assumption) | assumption)
               obtain ⟨ad254, A254_1, c254_1, e254, hx254_0, hx254_1, hl254_1, hi254_1⟩ := at_T45 (Kd.V_reads' HO_0.out).2.2 x11_2 p254 q254
               cases e254
               obtain ⟨ce254, hce254, hMe254, hcc254⟩ := Kd.V_get HO_0.out z45 x11_2 p254 (by first | exact q254 | exact of_decide_eq_true (by first | (with_reducible assumption) | assumption) | (have e_ := (Kd.V_reads' HO_0.out).1; omega))
               obtain ⟨ua254_1, uc254_1, rfl, ul254_1, ge254_1⟩ := k45_openF hMe254
               have hv254_1 := hcc254 1 _ rfl
               rw [add_field _ _ 1 (by omega)] at hv254_1
               replace hv254_1 := Option.some.inj (hv254_1.symm.trans hx254_1)
               injection hv254_1 with hva_ hvn_ hvc_
               rw [hva_] at ge254_1
               rw [hvc_] at ul254_1
               have HL254_1 := Aside0.mk (show Kd.V k47 47 _ w.heap.size _ _ ((rd_T45 l0 x11_2).f1) from Kd.V_mk ul254_1 ge254_1)
               clear hva_ hvn_ hvc_ ge254_1 ul254_1
               clear hcc254 hce254
               have HR254_1 := Aside0.mk hi254_1
               have HC254_1 := Aside0.mk hl254_1
               clear hi254_1 hl254_1
               replace p254 := eq_true p254
               replace q254 := eq_true q254
               have p255 : 0 ≤ (x11_2 : Int) := of_decide_eq_true (by first | (with_reducible assumption) | assumption)
               have q255 : x11_2 < (l0.length : Int) := of_decide_eq_true (by first | (with_reducible assumption) | assumption)
               obtain ⟨ad255, A255_1, c255_1, e255, hx255_0, hx255_1, hl255_1, hi255_1⟩ := at_T45 (Kd.V_reads' HO_0.out).2.2 x11_2 p255 q255
               obtain rfl : ad254 = ad255 := (by injection e255)
               obtain ⟨ce255, hce255, hMe255, hcc255⟩ := Kd.V_get HO_0.out z45 x11_2 p255 (by first | exact q255 | exact of_decide_eq_true (by first | (with_reducible assumption) | assumption) | (have e_ := (Kd.V_reads' HO_0.out).1; omega))
               obtain ⟨ua255_1, uc255_1, rfl, ul255_1, ge255_1⟩ := k45_openF hMe255
               have hv255_1 := hcc255 1 _ rfl
               rw [add_field _ _ 1 (by omega)] at hv255_1
               replace hv255_1 := Option.some.inj (hv255_1.symm.trans hx255_1)
               injection hv255_1 with hva_ hvn_ hvc_
               rw [hva_] at ge255_1
               rw [hvc_] at ul255_1
               have HL255_1 := Aside0.mk (show Kd.V k47 47 _ w.heap.size _ _ ((rd_T45 l0 x11_2).f1) from Kd.V_mk ul255_1 ge255_1)
               clear hva_ hvn_ hvc_ ge255_1 ul255_1
               clear hcc255 hce255
               have HR255_1 := Aside0.mk hi255_1
               have HC255_1 := Aside0.mk hl255_1
               clear hi255_1 hl255_1
               replace p255 := eq_true p255
               replace q255 := eq_true q255
               have ea_ := Option.some.inj (hx254_1.symm.trans hx255_1)
               injection ea_ with ea_ en_ ec_
               subst ea_
               subst ec_
               clear en_
               go_wp2_with (first | ((with_reducible refine gate_builtin (b := .append) (xs := #[.tmp 70, .tmp 75]) rfl ?_); at_builtin; refine Kd.N_append k45 (w0 := w) w.heap.size rfl (.tmp 70) (.tmp 75) 22 45 (.agg #[(.int .i64 0), (.slice none 0 0)]) 32 rfl Try.underlying22 info45 rfl (by decide) (by omega) u9 x9_2 (⟨(rd_T45 l0 x11_2).f0, (rd_T45 l0 x11_2).f1⟩ : S45) [.int .i64 ((rd_T45 l0 x11_2).f0), .slice A254_1 ((rd_T45 l0 x11_2).f1).length c254_1] (fun k_ => (P0_ k_ ∨ w.heap.size ≤ k_)) (fun k_ => ((fun k_ => (P0_ k_ ∨ w.heap.size ≤ k_))) k_ ∧ some k_ ≠ (u9 : Value).ownBlock) rfl rfl ?aP (fun _ hk => hk) ?aF ?aO ?aB ?aS ?aL ?_; (case aP => exact (k45_mkF _ _ (⟨(rd_T45 l0 x11_2).f0, (rd_T45 l0 x11_2).f1⟩ : S45) (Kd.V_reads' (Kd.V_mono (ok' := (fun k_ => ((fun k_ => (P0_ k_ ∨ w.heap.size ≤ k_))) k_ ∧ some k_ ≠ (u9 : Value).ownBlock)) (HL255_1.out) (fun k_ hk => ⟨hk.1, hk.2⟩))).2.1 (Kd.V_F (Kd.V_mono (ok' := (fun k_ => ((fun k_ => (P0_ k_ ∨ w.heap.size ≤ k_))) k_ ∧ some k_ ≠ (u9 : Value).ownBlock)) (HL255_1.out) (fun k_ hk => ⟨hk.1, hk.2⟩))))); (case aB => exact (by repeat (first | (with_reducible first | exact HB.out | apply below_alloc | apply pw_below_drewN | apply below_drew1) | exact HB.out))); (case aF => exact (fun k_ hk => (.inr (Nat.le_trans (below_size (by repeat (first | (with_reducible first | exact HB.out | apply below_alloc | apply pw_below_drewN | apply below_drew1) | exact HB.out))) hk)))); (case aO => exact (by (with_reducible repeat (first | apply Kd.N_alloc | apply Kd.N_drewN | apply Kd.N_drew)); exact HO_9.out)); (case aS => exact (below_size (by repeat (first | (with_reducible first | exact HB.out | apply below_alloc | apply pw_below_drewN | apply below_drew1) | exact HB.out)))); (case aL => have := LMc46.out; omega); intro v257 w47 ho hb hg hat; rw [← Ny256.out] at ho; have n0_ := Aside0.mk (Kd.V_afterv (ok := (fun k_ => (P0_ k_ ∨ w.heap.size ≤ k_))) (by (with_reducible repeat (first | apply Kd.V_alloc | apply Kd.V_drewN | apply Kd.V_drew)); exact HO_0.out) hg hat); have n1_ := Aside0.mk (Kd.V_afterv (ok := (fun k_ => (P0_ k_ ∨ w.heap.size ≤ k_))) (by (with_reducible repeat (first | apply Kd.V_alloc | apply Kd.V_drewN | apply Kd.V_drew)); exact HL254_1.out) hg hat); have n2_ := Aside0.mk (Kd.V_afterv (ok := (fun k_ => (P0_ k_ ∨ w.heap.size ≤ k_))) (by (with_reducible repeat (first | apply Kd.V_alloc | apply Kd.V_drewN | apply Kd.V_drew)); exact HL255_1.out) hg hat); have n3_ := Aside0.mk (hb); have n4_ := Aside0.mk (ho); clear HO_0; clear HL254_1; clear HL255_1; clear HB; clear HO_9; have HO_0 := n0_; have HL254_1 := n1_; have HL255_1 := n2_; have HB := n3_; have HO258 := n4_; clear n0_ n1_ n2_ n3_ n4_; clear ho hb hg hat))
               go_roundg kj20
               case measure => have := HJ3.out; have := HK2.out; have := HJ20.out; omega
               case rel => exact ⟨(y256), (x10_2), (wrap64 (x11_2 + 1)), (by first | rfl | (simp; done) | (simp [*]; done)), (by first | rfl | (simp; done) | (simp [*]; done)), H', ⟨by have := HJ3.out; have := HK2.out; have := HJ20.out; omega⟩, ⟨by (with_reducible repeat (first | apply Kd.V_alloc | apply Kd.V_drewN | apply Kd.V_drew)); exact HO_0.out⟩, ⟨by (with_reducible repeat (first | apply Kd.N_alloc | apply Kd.N_drewN | apply Kd.N_drew)); exact HO258.out⟩, ⟨by repeat (first | (with_reducible first | exact HB.out | apply below_alloc | apply pw_below_drewN | apply below_drew1) | exact HB.out)⟩⟩
              ·rw [if_neg c46] at H
               exact absurd H (by simp)
            ·rw [if_neg c44] at H
             exact absurd H (by simp)
           ·rw [if_neg c43] at H
            exact absurd H (by simp)
       ·rw [if_neg c20] at H
        have c20b0 : decide (x11_2 < (l0.length : Int)) = false := decide_eq_false c20
        clear c20
        by_cases c48 : x10_2 = true
        ·subst c48
         have H1 : ((slotmeshref26_Many.f k2 x9_2).bind fun t259 => (if t259 > 64 then (some (([] : List (S45)), false, 10)) else (some (x9_2, true, 0)))) = some (r1, r2, r3) := by rw [if_pos rfl] at H; exact H
         clear H
         have H := H1
         clear H1
         replace H := Option.bind_eq_some_iff.mp H
         obtain ⟨t259, A490, H⟩ := H
         replace H : (if t259 > 64 then (some (([] : List (S45)), false, 10)) else (some (x9_2, true, 0))) = some (r1, r2, r3) := H
         have A49 := Aside0.mk A490
         clear A490
         by_cases c50 : t259 > 64
         ·rw [if_pos c50] at H
          have c50b0 : decide (64 < t259) = true := decide_eq_true c50
          clear c50
          simp only [Option.some.injEq, Prod.mk.injEq] at H
          obtain ⟨rfl, rfl, rfl⟩ := H
          obtain ⟨Ao51, co51, eo51⟩ := Kd.N_slice HO_9.out
          subst eo51
          go_wp2_with (first | ((with_reducible refine gate_callee (f := 25) rfl ?_); refine goesL_ (some 87) rfl rfl Try.func25 (by kernel_rfl) rfl #[.slice Ao51 x9_2.length co51] rfl (by (try simp only [List.map_toArray, List.map_cons, List.map_nil]); first | done | rfl | (simp only [List.length_drop, List.length_take]; rfl)) ?_; (with_reducible refine (slotmeshref26_Many.calls k2 _ _ x9_2 t259 _ ?side1 ?side2 A49.out).mono ?_); (case side1 => repeat (first | exact (Kd.N_reads' HO_9.out).2.2 | (with_reducible refine Kd.C_alloc ?_ _) | (with_reducible refine Kd.C_drewN ?_ _) | (with_reducible refine Kd.C_drew ?_))); (case side2 => exact (Kd.N_reads' HO_9.out).2.1); rintro e w' ⟨rfl, ⟨nd, rfl⟩⟩; refine ⟨_, rfl, ?_⟩))
          go_ret3
          exact ⟨.slice none 0 0, by first | rfl | (simp [errW_none, errW_some] <;> rfl) | (simp [*, errW_none, errW_some] <;> rfl), Kd.V_nil _ _ _ _ _, by repeat (first | (with_reducible first | exact HB.out | apply below_alloc | apply pw_below_drewN | apply below_drew1) | exact HB.out)⟩
         ·rw [if_neg c50] at H
          have c50b0 : decide (64 < t259) = false := decide_eq_false c50
          clear c50
          simp only [Option.some.injEq, Prod.mk.injEq] at H
          obtain ⟨rfl, rfl, rfl⟩ := H
          obtain ⟨Ao52, co52, eo52⟩ := Kd.N_slice HO_9.out
          subst eo52
          go_wp2_with (first | ((with_reducible refine gate_callee (f := 25) rfl ?_); refine goesL_ (some 87) rfl rfl Try.func25 (by kernel_rfl) rfl #[.slice Ao52 x9_2.length co52] rfl (by (try simp only [List.map_toArray, List.map_cons, List.map_nil]); first | done | rfl | (simp only [List.length_drop, List.length_take]; rfl)) ?_; (with_reducible refine (slotmeshref26_Many.calls k2 _ _ x9_2 t259 _ ?side1 ?side2 A49.out).mono ?_); (case side1 => repeat (first | exact (Kd.N_reads' HO_9.out).2.2 | (with_reducible refine Kd.C_alloc ?_ _) | (with_reducible refine Kd.C_drewN ?_ _) | (with_reducible refine Kd.C_drew ?_))); (case side2 => exact (Kd.N_reads' HO_9.out).2.1); rintro e w' ⟨rfl, ⟨nd, rfl⟩⟩; refine ⟨_, rfl, ?_⟩))
          go_ret3
          exact ⟨_, by first | rfl | (simp [errW_none, errW_some] <;> rfl) | (simp [*, errW_none, errW_some] <;> rfl), Kd.N_V (by (with_reducible repeat (first | apply Kd.N_alloc | apply Kd.N_drewN | apply Kd.N_drew)); exact HO_9.out), by repeat (first | (with_reducible first | exact HB.out | apply below_alloc | apply pw_below_drewN | apply below_drew1) | exact HB.out)⟩
        ·replace c48 := Bool.eq_false_iff.mpr c48
         subst c48
         have H1 : ((slotmeshref26_with.f k2 ([] : List (S47)) a2).bind fun t260 => (if x9_2.length < 4398046511104 then ((some (x9_2 ++ [(⟨a1, t260⟩ : S45)] : List (S45))).bind fun y263 => ((slotmeshref26_Many.f k2 y263).bind fun t266 => (if t266 > 64 then (some (([] : List (S45)), false, 10)) else (some (y263, true, 0))))) else (none))) = some (r1, r2, r3) := by rw [if_neg (show ¬ (false = true) by decide)] at H; exact H
         clear H
         have H := H1
         clear H1
         replace H := Option.bind_eq_some_iff.mp H
         obtain ⟨t260, A530, H⟩ := H
         replace H : (if x9_2.length < 4398046511104 then ((some (x9_2 ++ [(⟨a1, t260⟩ : S45)] : List (S45))).bind fun y263 => ((slotmeshref26_Many.f k2 y263).bind fun t266 => (if t266 > 64 then (some (([] : List (S45)), false, 10)) else (some (y263, true, 0))))) else (none)) = some (r1, r2, r3) := H
         have A53 := Aside0.mk A530
         clear A530
         by_cases c54 : x9_2.length < 4398046511104
         ·rw [if_pos c54] at H
          have LMc54 := Aside0.mk c54
          clear c54
          obtain ⟨y263, hy263⟩ : ∃ y_ : List (S45), y_ = (x9_2 ++ [(⟨a1, t260⟩ : S45)]) := ⟨_, rfl⟩
          replace H : ((slotmeshref26_Many.f k2 y263).bind fun t266 => (if t266 > 64 then (some (([] : List (S45)), false, 10)) else (some (y263, true, 0)))) = some (r1, r2, r3) := by first | (rw [hy263]; with_reducible exact H) | (have H2_ := (Option.bind_some _ _).symm.trans H; rw [hy263]; with_reducible exact H2_) | (have H2_ := (Option.bind_some _ _).symm.trans H; with_reducible exact H2_) | with_reducible exact H | (rw [hy263]; exact H) | exact H
          have Ny263 := Aside0.mk hy263
          clear hy263
          replace H := Option.bind_eq_some_iff.mp H
          obtain ⟨t266, A550, H⟩ := H
          replace H : (if t266 > 64 then (some (([] : List (S45)), false, 10)) else (some (y263, true, 0))) = some (r1, r2, r3) := H
          have A55 := Aside0.mk A550
          clear A550
          by_cases c56 : t266 > 64
          ·rw [if_pos c56] at H
           have c56b0 : decide (64 < t266) = true := decide_eq_true c56
           clear c56
           simp only [Option.some.injEq, Prod.mk.injEq] at H
           obtain ⟨rfl, rfl, rfl⟩ := H
           go_wp2_with (first | ((with_reducible refine gate_callee (f := 37) rfl ?_); refine goesL_ (some 82) rfl rfl Try.func37 (by kernel_rfl) rfl #[.slice none 0 0, .int .i64 a2] rfl (by (try simp only [List.map_toArray, List.map_cons, List.map_nil]); first | done | rfl | (simp only [List.length_drop, List.length_take]; rfl)) ?_; (refine (slotmeshref26_with.calls k2 _ _ ([] : List (S47)) a2 t260 _ ?side1 ?side2 A53.out).mono ?_); (case side1 => exact Kd.C_nil _ _); (case side2 => exact Nat.le_refl _); rintro e w57 ⟨v261, rfl, ho0, hb⟩; refine ⟨_, rfl, ?_⟩; have n0_ := Aside0.mk (Kd.V_elder' (by (with_reducible repeat (first | apply Kd.V_alloc | apply Kd.V_drewN | apply Kd.V_drew)); exact HO_0.out) (Kd.R_base ho0) hb); have n1_ := Aside0.mk (Kd.N_elder' (by (with_reducible repeat (first | apply Kd.N_alloc | apply Kd.N_drewN | apply Kd.N_drew)); exact HO_9.out) (Kd.R_base ho0) hb); have n2_ := Aside0.mk (Kd.R_lower (Kd.R_newM (M := fun k_ => (w.heap.size ≤ k_)) ho0 (below_size (by repeat (first | (with_reducible first | exact HB.out | apply below_alloc | apply pw_below_drewN | apply below_drew1) | exact HB.out))) (fun k_ h_ => h_)) (below_size (by repeat (first | (with_reducible first | exact HB.out | apply below_alloc | apply pw_below_drewN | apply below_drew1) | exact HB.out)))); have n3_ := Aside0.mk (below_step (by repeat (first | (with_reducible first | exact HB.out | apply below_alloc | apply pw_below_drewN | apply below_drew1) | exact HB.out)) hb); clear HO_0; clear HO_9; clear HB; have HO_0 := n0_; have HO_9 := n1_; have HO262 := n2_; have HB := n3_; clear n0_ n1_ n2_ n3_; (try clear hb); (try clear hb2); (try clear hk); (try clear hi); (try clear ho0); obtain ⟨Ao58, co58, eo58⟩ := Kd.R_slice HO262.out; subst eo58) | ((with_reducible refine gate_builtin (b := .append) (xs := #[.tmp 79, .tmp 84]) rfl ?_); at_builtin; refine Kd.N_append k45 (w0 := w) w.heap.size rfl (.tmp 79) (.tmp 84) 22 45 (.agg #[(.int .i64 0), (.slice none 0 0)]) 32 rfl Try.underlying22 info45 rfl (by decide) (by omega) u9 x9_2 (⟨a1, t260⟩ : S45) [.int .i64 a1, .slice Ao58 t260.length co58] (fun k_ => (P0_ k_ ∨ w.heap.size ≤ k_)) (fun k_ => ((fun k_ => (P0_ k_ ∨ w.heap.size ≤ k_))) k_ ∧ some k_ ≠ (u9 : Value).ownBlock) rfl rfl ?aP (fun _ hk => hk) ?aF ?aO ?aB ?aS ?aL ?_; (case aP => exact (k45_mkF _ _ (⟨a1, t260⟩ : S45) (Kd.R_reads' (Kd.R_mono (ok' := (fun k_ => ((fun k_ => (P0_ k_ ∨ w.heap.size ≤ k_))) k_ ∧ some k_ ≠ (u9 : Value).ownBlock)) (Kd.R_apart' (HO262.out) (Kd.N_typed HO_9.out) (by decide)) (fun k_ hk => ⟨(.inr (hk.1.1)), hk.2⟩))).2.1 (Kd.R_F (Kd.R_mono (ok' := (fun k_ => ((fun k_ => (P0_ k_ ∨ w.heap.size ≤ k_))) k_ ∧ some k_ ≠ (u9 : Value).ownBlock)) (Kd.R_apart' (HO262.out) (Kd.N_typed HO_9.out) (by decide)) (fun k_ hk => ⟨(.inr (hk.1.1)), hk.2⟩))))); (case aB => exact (by repeat (first | (with_reducible first | exact HB.out | apply below_alloc | apply pw_below_drewN | apply below_drew1) | exact HB.out))); (case aF => exact (fun k_ hk => (.inr (Nat.le_trans (below_size (by repeat (first | (with_reducible first | exact HB.out | apply below_alloc | apply pw_below_drewN | apply below_drew1) | exact HB.out))) hk)))); (case aO => exact (by (with_reducible repeat (first | apply Kd.N_alloc | apply Kd.N_drewN | apply Kd.N_drew)); exact Kd.N_mono HO_9.out (fun _ hk => hk.1))); (case aS => exact (below_size (by repeat (first | (with_reducible first | exact HB.out | apply below_alloc | apply pw_below_drewN | apply below_drew1) | exact HB.out)))); (case aL => have := LMc54.out; omega); intro v264 w59 ho hb hg hat; rw [← Ny263.out] at ho; have n0_ := Aside0.mk (Kd.V_afterv (ok := (fun k_ => (P0_ k_ ∨ w.heap.size ≤ k_) ∧ some k_ ≠ (.slice Ao58 t260.length co58 : Value).ownBlock)) (by (with_reducible repeat (first | apply Kd.V_alloc | apply Kd.V_drewN | apply Kd.V_drew)); exact Kd.V_mono HO_0.out (fun _ hk => ⟨⟨hk.1.1, hk.2⟩, hk.1.2⟩)) hg hat); have n1_ := Aside0.mk (hb); have n2_ := Aside0.mk (ho); clear HO_0; clear HB; clear HO_9; clear HO262; have HO_0 := n0_; have HB := n1_; have HO265 := n2_; clear n0_ n1_ n2_; clear ho hb hg hat; obtain ⟨Ao60, co60, eo60⟩ := Kd.N_slice HO265.out; subst eo60) | ((with_reducible refine gate_callee (f := 25) rfl ?_); refine goesL_ (some 87) rfl rfl Try.func25 (by kernel_rfl) rfl #[.slice Ao60 y263.length co60] rfl (by (try simp only [List.map_toArray, List.map_cons, List.map_nil]); first | done | rfl | (simp only [List.length_drop, List.length_take]; rfl)) ?_; (with_reducible refine (slotmeshref26_Many.calls k2 _ _ y263 t266 _ ?side1 ?side2 A55.out).mono ?_); (case side1 => repeat (first | exact (Kd.N_reads' HO265.out).2.2 | (with_reducible refine Kd.C_alloc ?_ _) | (with_reducible refine Kd.C_drewN ?_ _) | (with_reducible refine Kd.C_drew ?_))); (case side2 => exact (Kd.N_reads' HO265.out).2.1); rintro e w' ⟨rfl, ⟨nd, rfl⟩⟩; refine ⟨_, rfl, ?_⟩))
           go_ret3
           exact ⟨.slice none 0 0, by first | rfl | (simp [errW_none, errW_some] <;> rfl) | (simp [*, errW_none, errW_some] <;> rfl), Kd.V_nil _ _ _ _ _, by repeat (first | (with_reducible first | exact HB.out | apply below_alloc | apply pw_below_drewN | apply below_drew1) | exact HB.out)⟩
          ·rw [if_neg c56] at H
           have c56b0 : decide (64 < t266) = false := decide_eq_false c56
           clear c56
           simp only [Option.some.injEq, Prod.mk.injEq] at H
           obtain ⟨rfl, rfl, rfl⟩ := H
           go_wp2_with (first | ((with_reducible refine gate_callee (f := 37) rfl ?_); refine goesL_ (some 82) rfl rfl Try.func37 (by kernel_rfl) rfl #[.slice none 0 0, .int .i64 a2] rfl (by (try simp only [List.map_toArray, List.map_cons, List.map_nil]); first | done | rfl | (simp only [List.length_drop, List.length_take]; rfl)) ?_; (refine (slotmeshref26_with.calls k2 _ _ ([] : List (S47)) a2 t260 _ ?side1 ?side2 A53.out).mono ?_); (case side1 => exact Kd.C_nil _ _); (case side2 => exact Nat.le_refl _); rintro e w61 ⟨v261, rfl, ho0, hb⟩; refine ⟨_, rfl, ?_⟩; have n0_ := Aside0.mk (Kd.V_elder' (by (with_reducible repeat (first | apply Kd.V_alloc | apply Kd.V_drewN | apply Kd.V_drew)); exact HO_0.out) (Kd.R_base ho0) hb); have n1_ := Aside0.mk (Kd.N_elder' (by (with_reducible repeat (first | apply Kd.N_alloc | apply Kd.N_drewN | apply Kd.N_drew)); exact HO_9.out) (Kd.R_base ho0) hb); have n2_ := Aside0.mk (Kd.R_lower (Kd.R_newM (M := fun k_ => (w.heap.size ≤ k_)) ho0 (below_size (by repeat (first | (with_reducible first | exact HB.out | apply below_alloc | apply pw_below_drewN | apply below_drew1) | exact HB.out))) (fun k_ h_ => h_)) (below_size (by repeat (first | (with_reducible first | exact HB.out | apply below_alloc | apply pw_below_drewN | apply below_drew1) | exact HB.out)))); have n3_ := Aside0.mk (below_step (by repeat (first | (with_reducible first | exact HB.out | apply below_alloc | apply pw_below_drewN | apply below_drew1) | exact HB.out)) hb); clear HO_0; clear HO_9; clear HB; have HO_0 := n0_; have HO_9 := n1_; have HO262 := n2_; have HB := n3_; clear n0_ n1_ n2_ n3_; (try clear hb); (try clear hb2); (try clear hk); (try clear hi); (try clear ho0); obtain ⟨Ao62, co62, eo62⟩ := Kd.R_slice HO262.out; subst eo62) | ((with_reducible refine gate_builtin (b := .append) (xs := #[.tmp 79, .tmp 84]) rfl ?_); at_builtin; refine Kd.N_append k45 (w0 := w) w.heap.size rfl (.tmp 79) (.tmp 84) 22 45 (.agg #[(.int .i64 0), (.slice none 0 0)]) 32 rfl Try.underlying22 info45 rfl (by decide) (by omega) u9 x9_2 (⟨a1, t260⟩ : S45) [.int .i64 a1, .slice Ao62 t260.length co62] (fun k_ => (P0_ k_ ∨ w.heap.size ≤ k_)) (fun k_ => ((fun k_ => (P0_ k_ ∨ w.heap.size ≤ k_))) k_ ∧ some k_ ≠ (u9 : Value).ownBlock) rfl rfl ?aP (fun _ hk => hk) ?aF ?aO ?aB ?aS ?aL ?_; (case aP => exact (k45_mkF _ _ (⟨a1, t260⟩ : S45) (Kd.R_reads' (Kd.R_mono (ok' := (fun k_ => ((fun k_ => (P0_ k_ ∨ w.heap.size ≤ k_))) k_ ∧ some k_ ≠ (u9 : Value).ownBlock)) (Kd.R_apart' (HO262.out) (Kd.N_typed HO_9.out) (by decide)) (fun k_ hk => ⟨(.inr (hk.1.1)), hk.2⟩))).2.1 (Kd.R_F (Kd.R_mono (ok' := (fun k_ => ((fun k_ => (P0_ k_ ∨ w.heap.size ≤ k_))) k_ ∧ some k_ ≠ (u9 : Value).ownBlock)) (Kd.R_apart' (HO262.out) (Kd.N_typed HO_9.out) (by decide)) (fun k_ hk => ⟨(.inr (hk.1.1)), hk.2⟩))))); (case aB => exact (by repeat (first | (with_reducible first | exact HB.out | apply below_alloc | apply pw_below_drewN | apply below_drew1) | exact HB.out))); (case aF => exact (fun k_ hk => (.inr (Nat.le_trans (below_size (by repeat (first | (with_reducible first | exact HB.out | apply below_alloc | apply pw_below_drewN | apply below_drew1) | exact HB.out))) hk)))); (case aO => exact (by (with_reducible repeat (first | apply Kd.N_alloc | apply Kd.N_drewN | apply Kd.N_drew)); exact Kd.N_mono HO_9.out (fun _ hk => hk.1))); (case aS => exact (below_size (by repeat (first | (with_reducible first | exact HB.out | apply below_alloc | apply pw_below_drewN | apply below_drew1) | exact HB.out)))); (case aL => have := LMc54.out; omega); intro v264 w63 ho hb hg hat; rw [← Ny263.out] at ho; have n0_ := Aside0.mk (Kd.V_afterv (ok := (fun k_ => (P0_ k_ ∨ w.heap.size ≤ k_) ∧ some k_ ≠ (.slice Ao62 t260.length co62 : Value).ownBlock)) (by (with_reducible repeat (first | apply Kd.V_alloc | apply Kd.V_drewN | apply Kd.V_drew)); exact Kd.V_mono HO_0.out (fun _ hk => ⟨⟨hk.1.1, hk.2⟩, hk.1.2⟩)) hg hat); have n1_ := Aside0.mk (hb); have n2_ := Aside0.mk (ho); clear HO_0; clear HB; clear HO_9; clear HO262; have HO_0 := n0_; have HB := n1_; have HO265 := n2_; clear n0_ n1_ n2_; clear ho hb hg hat; obtain ⟨Ao64, co64, eo64⟩ := Kd.N_slice HO265.out; subst eo64) | ((with_reducible refine gate_callee (f := 25) rfl ?_); refine goesL_ (some 87) rfl rfl Try.func25 (by kernel_rfl) rfl #[.slice Ao64 y263.length co64] rfl (by (try simp only [List.map_toArray, List.map_cons, List.map_nil]); first | done | rfl | (simp only [List.length_drop, List.length_take]; rfl)) ?_; (with_reducible refine (slotmeshref26_Many.calls k2 _ _ y263 t266 _ ?side1 ?side2 A55.out).mono ?_); (case side1 => repeat (first | exact (Kd.N_reads' HO265.out).2.2 | (with_reducible refine Kd.C_alloc ?_ _) | (with_reducible refine Kd.C_drewN ?_ _) | (with_reducible refine Kd.C_drew ?_))); (case side2 => exact (Kd.N_reads' HO265.out).2.1); rintro e w' ⟨rfl, ⟨nd, rfl⟩⟩; refine ⟨_, rfl, ?_⟩))
           go_ret3
           exact ⟨_, by first | rfl | (simp [errW_none, errW_some] <;> rfl) | (simp [*, errW_none, errW_some] <;> rfl), Kd.N_V (by (with_reducible repeat (first | apply Kd.N_alloc | apply Kd.N_drewN | apply Kd.N_drew)); exact HO265.out), by repeat (first | (with_reducible first | exact HB.out | apply below_alloc | apply pw_below_drewN | apply below_drew1) | exact HB.out)⟩
         ·rw [if_neg c54] at H
          exact absurd H (by simp)

end Go.Proofs.Ytjibgfihfbdcaaa.PSeen
