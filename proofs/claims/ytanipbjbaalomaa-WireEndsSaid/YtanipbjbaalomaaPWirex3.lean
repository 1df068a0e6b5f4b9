-- A text of this claim, written by this session's program.
import Derived.Test.YtanipbjbaalomaaPWirex0
import Derived.Test.YtanipbjbaalomaaPWirex1
import Derived.Test.YtanipbjbaalomaaPWirex2
namespace Go.Proofs.Ytanipbjbaalomaa.PWire
open Go.RowKit Go.Proofs.YtanipbjbaalomaaW.PrintWords Go.Proofs.YtanipbjbaalomaaW.PrintLast Go.Proofs.YtanipbjbaalomaaW.PrintMore
attribute [local go_sem] max2_int min2_int max_two min_two max_three min_three max_four min_four   -- for this text's walks alone
set_option linter.unusedVariables false
set_option linter.unusedSimpArgs false

/-! ### wire_Unpack: function 30 (by hand) -/
set_option maxHeartbeats 8000000 in
set_option maxRecDepth 100000 in
theorem wire_Unpack_1.calls (lo hi at_ e n at' e' : Int) (be bb ba : Nat) (A : Option Addr) (c : Nat) (l : List Int) (w0 w : World) (h : Pl.nx l lo hi (at_, e) = (n, at', e')) (hb : Pl.isB l = true) (hlen : l.length ≤ 140737488355328)
    (hbe : w.heap[be]? = some (.cells #[.int .i64 e] 27 (0, 0))) (hba : w.heap[ba]? = some (.cells #[.int .i64 at_] 3 (0, 0))) (hbb : w.heap[bb]? = some (.cells #[.slice A l.length c] 22 (0, 0)))
    (hR : Kd.C (Kd.int .u8) w A l.length l) (hc : l.length ≤ c) (ge : w0.heap.size ≤ be) (ga : w0.heap.size ≤ ba) (hB : Below w0.heap.size w0 w) :
    Calls Try.prog 67 #[.agg #[.int .i64 lo, .int .i64 hi], .pointer (some ⟨be, 0, none⟩), .pointer (some ⟨bb, 0, none⟩), .pointer (some ⟨ba, 0, none⟩)] w fun e_ w' =>
      e_ = .returned (.int .i64 n) ∧ w'.heap[be]? = some (.cells #[.int .i64 e'] 27 (0, 0)) ∧ w'.heap[ba]? = some (.cells #[.int .i64 at'] 3 (0, 0)) ∧ Kept w w' (fun k => k = be ∨ k = ba) ∧ Below w0.heap.size w0 w' := by
  have hu96 := Try.underlying96
  have ce : w.cell? ⟨be, 0, none⟩ = some (.int .i64 e) := by rw [blk_cell hbe]; rfl
  have ca : w.cell? ⟨ba, 0, none⟩ = some (.int .i64 at_) := by rw [blk_cell hba]; rfl
  have cb : w.cell? ⟨bb, 0, none⟩ = some (.slice A l.length c) := by rw [blk_cell hbb]; rfl
  have fe : w.frozen? ⟨be, 0, none⟩ = false := blk_frozen hbe 0
  have fa : w.frozen? ⟨ba, 0, none⟩ = false := blk_frozen hba 0
  have le_ := blk_lt hbe
  have la_ := blk_lt hba
  have lb_ := blk_lt hbb
  have ne1 : be ≠ ba := blk_ne hbe hba (by decide)
  have HBE := Aside0.mk hbe
  have HBA := Aside0.mk hba
  have HBB := Aside0.mk hbb
  have HR := Aside0.mk hR
  have HC := Aside0.mk hc
  have HB := Aside0.mk hB
  have HY := Aside0.mk hb
  clear hbe hba hbb hR hc hB hb
  unfold Pl.nx at h
  by_cases he : e = 0
  · subst he
    rw [if_pos rfl] at h
    obtain ⟨r1, r2, r3, hr⟩ : ∃ r1 r2 r3, Pl.num l at_ = (r1, r2, r3) := ⟨_, _, _, rfl⟩
    simp only [hr, Prod.mk.injEq] at h
    have HN : Aside0 (wire_Number.f l at_ = some (r1, r2, r3)) := ⟨by unfold wire_Number.f; rw [if_pos ⟨HY.out, hlen⟩, hr]⟩
    obtain ⟨rfl, rfl, h3⟩ := h
    clear hr hlen
    by_cases hr3 : r3 = 0
    · subst hr3
      have G : Aside0 (∀ m : Nat, ((((w.alloc (.cells #[.int .i64 lo, .int .i64 hi] 96)).drewN m).setCell ⟨ba, 0, none⟩ (.int .i64 r2)).setCell ⟨be, 0, none⟩ (.int .i64 0)).heap[be]? = some (.cells #[.int .i64 0] 27 (0, 0)) ∧
          ((((w.alloc (.cells #[.int .i64 lo, .int .i64 hi] 96)).drewN m).setCell ⟨ba, 0, none⟩ (.int .i64 r2)).setCell ⟨be, 0, none⟩ (.int .i64 0)).heap[ba]? = some (.cells #[.int .i64 r2] 3 (0, 0)) ∧
          Kept w ((((w.alloc (.cells #[.int .i64 lo, .int .i64 hi] 96)).drewN m).setCell ⟨ba, 0, none⟩ (.int .i64 r2)).setCell ⟨be, 0, none⟩ (.int .i64 0)) (fun k => k = be ∨ k = ba) ∧
          Below w0.heap.size w0 ((((w.alloc (.cells #[.int .i64 lo, .int .i64 hi] 96)).drewN m).setCell ⟨ba, 0, none⟩ (.int .i64 r2)).setCell ⟨be, 0, none⟩ (.int .i64 0))) :=
        ⟨fun m => ⟨blk_set (blk_far (blk_drewN (blk_alloc HBE.out _) m) (p := ⟨ba, 0, none⟩) ne1 _) 0 _, blk_far (blk_set (blk_drewN (blk_alloc HBA.out _) m) 0 _) (p := ⟨be, 0, none⟩) (Ne.symm ne1) _, Kept.setCell (Kept.setCell (Kept.drewN (Kept.alloc (Kept.refl _ _) _) m) (.inl (.inr rfl)) _) (.inl (.inl rfl)) _, below_set (below_set (pw_below_drewN (below_alloc HB.out _) m) ga) ge⟩⟩
      by_cases hin : lo ≤ r1 ∧ r1 ≤ hi
      · rw [if_neg (fun hh => hh.2 hin)] at h3
        subst h3
        have HT : Aside0 (wire_in.f r1 lo hi = some true) := ⟨by unfold wire_in.f; rw [if_pos hin.1]; simp; exact hin.2⟩
        clear hin
        go_enter Try.func67, Try.ntmps67
        go_wp2_with (fail)
        refine (wire_Number.calls A c l at_ r1 r2 0 _ (Kd.C_alloc HR.out _) HC.out HN.out).mono ?_
        rintro e w' ⟨rfl, ⟨m, rfl⟩⟩
        go_wp2_with (fail)
        refine (wire_in.calls r1 lo hi true _ HT.out).mono ?_
        rintro e w6 ⟨rfl, hb6⟩
        obtain ⟨g1, g2, g3, g4⟩ := G.out m
        have HF := Aside0.mk (And.intro (blk_below g1 hb6) (And.intro (blk_below g2 hb6) (And.intro (g3.below hb6) (below_step g4 hb6))))
        clear hb6 g1 g2 g3 g4 G
        go_wp2_with (fail)
        go_ret
        exact ⟨rfl, HF.out⟩
      · rw [if_pos ⟨rfl, hin⟩] at h3
        subst h3
        have HT : Aside0 (wire_in.f r1 lo hi = some false) := ⟨by
          unfold wire_in.f
          by_cases hx : r1 ≥ lo
          · rw [if_pos hx]; simp; omega
          · rw [if_neg hx]⟩
        clear hin
        go_enter Try.func67, Try.ntmps67
        go_wp2_with (fail)
        refine (wire_Number.calls A c l at_ r1 r2 0 _ (Kd.C_alloc HR.out _) HC.out HN.out).mono ?_
        rintro e w' ⟨rfl, ⟨m, rfl⟩⟩
        go_wp2_with (fail)
        refine (wire_in.calls r1 lo hi false _ HT.out).mono ?_
        rintro e w6 ⟨rfl, hb6⟩
        obtain ⟨g1, g2, g3, g4⟩ := G.out m
        have HF := Aside0.mk (And.intro (blk_below g1 hb6) (And.intro (blk_below g2 hb6) (And.intro (g3.below hb6) (below_step g4 hb6))))
        clear hb6 g1 g2 g3 g4 G
        have c6 : w6.cell? ⟨be, 0, none⟩ = some (.int .i64 0) := by rw [blk_cell HF.out.1]; rfl
        have f6 : w6.frozen? ⟨be, 0, none⟩ = false := blk_frozen HF.out.1 0
        go_wp2_with (fail)
        go_ret
        exact ⟨rfl, blk_set HF.out.1 0 _, blk_far HF.out.2.1 (p := ⟨be, 0, none⟩) (Ne.symm ne1) _, Kept.setCell HF.out.2.2.1 (.inl (.inl rfl)) _, below_set HF.out.2.2.2 ge⟩
    · rw [if_neg (fun hh => hr3 hh.1)] at h3
      subst h3
      have hr3b : (r3 == 0) = false := beq_eq_false_iff_ne.2 hr3
      have hr3n : (r3 != 0) = true := bne_iff_ne.2 hr3
      clear hr3
      go_enter Try.func67, Try.ntmps67
      go_wp2_with (fail)
      refine (wire_Number.calls A c l at_ r1 r2 r3 _ (Kd.C_alloc HR.out _) HC.out HN.out).mono ?_
      rintro e w' ⟨rfl, ⟨m, rfl⟩⟩
      go_wp2_with (fail)
      go_ret
      exact ⟨rfl, blk_set (blk_far (blk_drewN (blk_alloc HBE.out _) m) (p := ⟨ba, 0, none⟩) ne1 _) 0 _, blk_far (blk_set (blk_drewN (blk_alloc HBA.out _) m) 0 _) (p := ⟨be, 0, none⟩) (Ne.symm ne1) _, Kept.setCell (Kept.setCell (Kept.drewN (Kept.alloc (Kept.refl _ _) _) m) (.inl (.inr rfl)) _) (.inl (.inl rfl)) _, below_set (below_set (pw_below_drewN (below_alloc HB.out _) m) ga) ge⟩
  · rw [if_neg he] at h
    simp only [Prod.mk.injEq] at h
    obtain ⟨rfl, rfl, rfl⟩ := h
    have heb : (e == 0) = false := beq_eq_false_iff_ne.2 he
    have hen : (e != 0) = true := bne_iff_ne.2 he
    clear he
    go_enter Try.func67, Try.ntmps67
    go_wp2_with (fail)
    go_ret
    exact ⟨rfl, blk_alloc HBE.out _, blk_alloc HBA.out _, Kept.alloc (Kept.refl _ _) _, below_alloc HB.out _⟩
def wire_Unpack.f (k : Nat) (l0 : List Int) : Option (Int × Int × Int × Int × Int × List Int × Int) :=
  if Pl.isB l0 = true ∧ l0.length ≤ 140737488355328 then
    (if (Pl.u4 l0).2.2 = 0 then (wire_Bytes.f k l0 (Pl.u4 l0).2.1).bind fun b => if b.2.2 = 0 then (if b.2.1 < (l0.length : Int) then some (0, 0, 0, 0, 0, [], 11) else some ((Pl.u0 l0).1, (Pl.u1 l0).1, (Pl.u2 l0).1, (Pl.u3 l0).1, (Pl.u4 l0).1, b.1, 0)) else some (0, 0, 0, 0, 0, [], b.2.2)
    else some (0, 0, 0, 0, 0, [], (Pl.u4 l0).2.2))
  else none
theorem wire_Unpack.mono : ∀ a0 k, LeO (wire_Unpack.f k a0) (wire_Unpack.f (k + 1) a0) := by
  intro a0 k
  unfold wire_Unpack.f
  repeat' first
      | (with_reducible exact wire_Bytes.mono _ _ _)
      | (with_reducible exact LeO.refl _)
      | (with_reducible refine LeO.ite ?_ ?_)
      | (with_reducible refine LeO.bind ?_ (fun _ => ?_))
/-- What the memory holds while Unpack's loop runs. -/
def UnpW (A : Option Addr) (c : Nat) (l : List Int) (w wr : World) (v0 v1 v2 v3 v4 at_ e : Int) : Prop :=
  wr.heap[w.heap.size]? = some (.cells #[.slice A l.length c] 22 (0, 0)) ∧
  wr.heap[w.heap.size + 1]? = some (.cells #[.int .i64 0, .int .i64 0, .int .i64 0, .int .i64 0, .int .i64 0, .slice none 0 0] 24 (0, 0)) ∧
  wr.heap[w.heap.size + 1 + 1]? = some (.cells #[.int .i64 at_] 3 (0, 0)) ∧
  wr.heap[w.heap.size + 1 + 1 + 1]? = some (.cells #[.int .i64 e] 27 (0, 0)) ∧
  wr.heap[w.heap.size + 1 + 1 + 1 + 1]? = some (.cells #[.int .i64 v0, .int .i64 v1, .int .i64 v2, .int .i64 v3, .int .i64 v4] 94 (0, 0)) ∧
  Below w.heap.size w wr
def UnpAt (A : Option Addr) (c : Nat) (l0 : List Int) (w wr : World) (i : Int) : Prop :=
  (i = 0 ∧ UnpW A c l0 w wr 0 0 0 0 0 0 0) ∨
  (i = 1 ∧ UnpW A c l0 w wr (Pl.u0 l0).1 0 0 0 0 (Pl.u0 l0).2.1 (Pl.u0 l0).2.2) ∨
  (i = 2 ∧ UnpW A c l0 w wr (Pl.u0 l0).1 (Pl.u1 l0).1 0 0 0 (Pl.u1 l0).2.1 (Pl.u1 l0).2.2) ∨
  (i = 3 ∧ UnpW A c l0 w wr (Pl.u0 l0).1 (Pl.u1 l0).1 (Pl.u2 l0).1 0 0 (Pl.u2 l0).2.1 (Pl.u2 l0).2.2) ∨
  (i = 4 ∧ UnpW A c l0 w wr (Pl.u0 l0).1 (Pl.u1 l0).1 (Pl.u2 l0).1 (Pl.u3 l0).1 0 (Pl.u3 l0).2.1 (Pl.u3 l0).2.2) ∨
  (i = 5 ∧ UnpW A c l0 w wr (Pl.u0 l0).1 (Pl.u1 l0).1 (Pl.u2 l0).1 (Pl.u3 l0).1 (Pl.u4 l0).1 (Pl.u4 l0).2.1 (Pl.u4 l0).2.2)
section
variable {A : Option Addr} {c : Nat} {l : List Int} {w wr W : World} {v0 v1 v2 v3 v4 at_ e at' e' : Int}
theorem UnpW.alloc (h : UnpW A c l w wr v0 v1 v2 v3 v4 at_ e) (o : Obj) : UnpW A c l w (wr.alloc o) v0 v1 v2 v3 v4 at_ e :=
  ⟨blk_alloc h.1 o, blk_alloc h.2.1 o, blk_alloc h.2.2.1 o, blk_alloc h.2.2.2.1 o, blk_alloc h.2.2.2.2.1 o, below_alloc h.2.2.2.2.2 o⟩
theorem UnpW.below (h : UnpW A c l w wr v0 v1 v2 v3 v4 at_ e) (hb : Below wr.heap.size wr W) : UnpW A c l w W v0 v1 v2 v3 v4 at_ e :=
  ⟨blk_below h.1 hb, blk_below h.2.1 hb, blk_below h.2.2.1 hb, blk_below h.2.2.2.1 hb, blk_below h.2.2.2.2.1 hb, below_step h.2.2.2.2.2 hb⟩
theorem UnpW.called (h : UnpW A c l w wr v0 v1 v2 v3 v4 at_ e) (g1 : W.heap[w.heap.size + 1 + 1 + 1]? = some (.cells #[.int .i64 e'] 27 (0, 0))) (g2 : W.heap[w.heap.size + 1 + 1]? = some (.cells #[.int .i64 at'] 3 (0, 0)))
    (g3 : Kept wr W (fun k => k = w.heap.size + 1 + 1 + 1 ∨ k = w.heap.size + 1 + 1)) (g4 : Below w.heap.size w W) : UnpW A c l w W v0 v1 v2 v3 v4 at' e' :=
  ⟨blk_kept h.1 g3 (by omega), blk_kept h.2.1 g3 (by omega), g2, g1, blk_kept h.2.2.2.2.1 g3 (by omega), g4⟩
theorem UnpW.put0 (h : UnpW A c l w wr v0 v1 v2 v3 v4 at_ e) (n : Int) : UnpW A c l w (wr.setCell ⟨w.heap.size + 1 + 1 + 1 + 1, 0, none⟩ (.int .i64 n)) n v1 v2 v3 v4 at_ e :=
  ⟨blk_far h.1 (p := ⟨w.heap.size + 1 + 1 + 1 + 1, 0, none⟩) (by simp; omega) _, blk_far h.2.1 (p := ⟨w.heap.size + 1 + 1 + 1 + 1, 0, none⟩) (by simp) _, blk_far h.2.2.1 (p := ⟨w.heap.size + 1 + 1 + 1 + 1, 0, none⟩) (by simp) _, blk_far h.2.2.2.1 (p := ⟨w.heap.size + 1 + 1 + 1 + 1, 0, none⟩) (by simp) _, blk_set h.2.2.2.2.1 0 _, below_set h.2.2.2.2.2 (by omega)⟩
theorem UnpW.put1 (h : UnpW A c l w wr v0 v1 v2 v3 v4 at_ e) (n : Int) : UnpW A c l w (wr.setCell ⟨w.heap.size + 1 + 1 + 1 + 1, 1, none⟩ (.int .i64 n)) v0 n v2 v3 v4 at_ e :=
  ⟨blk_far h.1 (p := ⟨w.heap.size + 1 + 1 + 1 + 1, 1, none⟩) (by simp; omega) _, blk_far h.2.1 (p := ⟨w.heap.size + 1 + 1 + 1 + 1, 1, none⟩) (by simp) _, blk_far h.2.2.1 (p := ⟨w.heap.size + 1 + 1 + 1 + 1, 1, none⟩) (by simp) _, blk_far h.2.2.2.1 (p := ⟨w.heap.size + 1 + 1 + 1 + 1, 1, none⟩) (by simp) _, blk_set h.2.2.2.2.1 1 _, below_set h.2.2.2.2.2 (by omega)⟩
theorem UnpW.put2 (h : UnpW A c l w wr v0 v1 v2 v3 v4 at_ e) (n : Int) : UnpW A c l w (wr.setCell ⟨w.heap.size + 1 + 1 + 1 + 1, 2, none⟩ (.int .i64 n)) v0 v1 n v3 v4 at_ e :=
  ⟨blk_far h.1 (p := ⟨w.heap.size + 1 + 1 + 1 + 1, 2, none⟩) (by simp; omega) _, blk_far h.2.1 (p := ⟨w.heap.size + 1 + 1 + 1 + 1, 2, none⟩) (by simp) _, blk_far h.2.2.1 (p := ⟨w.heap.size + 1 + 1 + 1 + 1, 2, none⟩) (by simp) _, blk_far h.2.2.2.1 (p := ⟨w.heap.size + 1 + 1 + 1 + 1, 2, none⟩) (by simp) _, blk_set h.2.2.2.2.1 2 _, below_set h.2.2.2.2.2 (by omega)⟩
theorem UnpW.put3 (h : UnpW A c l w wr v0 v1 v2 v3 v4 at_ e) (n : Int) : UnpW A c l w (wr.setCell ⟨w.heap.size + 1 + 1 + 1 + 1, 3, none⟩ (.int .i64 n)) v0 v1 v2 n v4 at_ e :=
  ⟨blk_far h.1 (p := ⟨w.heap.size + 1 + 1 + 1 + 1, 3, none⟩) (by simp; omega) _, blk_far h.2.1 (p := ⟨w.heap.size + 1 + 1 + 1 + 1, 3, none⟩) (by simp) _, blk_far h.2.2.1 (p := ⟨w.heap.size + 1 + 1 + 1 + 1, 3, none⟩) (by simp) _, blk_far h.2.2.2.1 (p := ⟨w.heap.size + 1 + 1 + 1 + 1, 3, none⟩) (by simp) _, blk_set h.2.2.2.2.1 3 _, below_set h.2.2.2.2.2 (by omega)⟩
theorem UnpW.put4 (h : UnpW A c l w wr v0 v1 v2 v3 v4 at_ e) (n : Int) : UnpW A c l w (wr.setCell ⟨w.heap.size + 1 + 1 + 1 + 1, 4, none⟩ (.int .i64 n)) v0 v1 v2 v3 n at_ e :=
  ⟨blk_far h.1 (p := ⟨w.heap.size + 1 + 1 + 1 + 1, 4, none⟩) (by simp; omega) _, blk_far h.2.1 (p := ⟨w.heap.size + 1 + 1 + 1 + 1, 4, none⟩) (by simp) _, blk_far h.2.2.1 (p := ⟨w.heap.size + 1 + 1 + 1 + 1, 4, none⟩) (by simp) _, blk_far h.2.2.2.1 (p := ⟨w.heap.size + 1 + 1 + 1 + 1, 4, none⟩) (by simp) _, blk_set h.2.2.2.2.1 4 _, below_set h.2.2.2.2.2 (by omega)⟩
end
set_option maxHeartbeats 8000000 in
set_option maxRecDepth 100000 in
theorem wire_Unpack.calls (k : Nat) (A0 : Option Addr) (c0 : Nat) (l0 : List Int) (r1 : Int) (r2 : Int) (r3 : Int) (r4 : Int) (r5 : Int) (r6 : List Int) (r7 : Int) (w : World) (hr0 : Kd.C (Kd.int .u8) w A0 l0.length l0) (hc0 : l0.length ≤ c0) (h : wire_Unpack.f k l0 = some (r1, r2, r3, r4, r5, r6, r7)) :
    Calls Try.prog 30 #[.slice A0 l0.length c0] w fun e w' => ∃ v5_ : Value, e = .returned (.tuple #[.agg #[.int .i64 r1, .int .i64 r2, .int .i64 r3, .int .i64 r4, .int .i64 r5, v5_], .int .i64 r7]) ∧ Kd.R (Kd.int .u8) 5 w' w.heap.size (fun _ => True) v5_ r6 ∧ Below w.heap.size w w' := by
  have hu24 := Try.underlying24
  have hu94 := Try.underlying94
  have hu96 := Try.underlying96
  have hu97 := Try.underlying97
  have HR := Aside0.mk hr0
  have HC := Aside0.mk hc0
  unfold wire_Unpack.f at h
  have hbl : Pl.isB l0 = true ∧ l0.length ≤ 140737488355328 := by
    by_cases hh : Pl.isB l0 = true ∧ l0.length ≤ 140737488355328
    · exact hh
    · rw [if_neg hh] at h; cases h
  rw [if_pos hbl] at h
  obtain ⟨hby, hlen⟩ := hbl
  have HY := Aside0.mk hby
  have HH := Aside0.mk h
  clear hr0 hc0 h hby
  go_enter Try.func30, Try.ntmps30
  go_wp2_with (fail)
  refine (wire_limits.calls _).mono ?_
  rintro e w1 ⟨rfl, hb1⟩
  have hP : UnpW A0 c0 l0 w w1 0 0 0 0 0 0 0 := by
    refine ⟨blk_below ?_ hb1, blk_below ?_ hb1, blk_below ?_ hb1, blk_below ?_ hb1, blk_below ?_ hb1, below_step ?_ hb1⟩
    · exact blk_alloc (blk_alloc (blk_alloc (blk_alloc (blk_new _ _) _) _) _) _
    · have := blk_new (w.alloc (.cells #[.slice A0 l0.length c0] 22)) (.cells #[.int .i64 0, .int .i64 0, .int .i64 0, .int .i64 0, .int .i64 0, .slice none 0 0] 24)
      exact blk_alloc (blk_alloc (blk_alloc (by simpa using this) _) _) _
    · have := blk_new ((w.alloc (.cells #[.slice A0 l0.length c0] 22)).alloc (.cells #[.int .i64 0, .int .i64 0, .int .i64 0, .int .i64 0, .int .i64 0, .slice none 0 0] 24)) (.cells #[.int .i64 0] 3)
      exact blk_alloc (blk_alloc (by simpa using this) _) _
    · have := blk_new (((w.alloc (.cells #[.slice A0 l0.length c0] 22)).alloc (.cells #[.int .i64 0, .int .i64 0, .int .i64 0, .int .i64 0, .int .i64 0, .slice none 0 0] 24)).alloc (.cells #[.int .i64 0] 3)) (.cells #[.int .i64 0] 27)
      exact blk_alloc (by simpa using this) _
    · have := blk_new ((((w.alloc (.cells #[.slice A0 l0.length c0] 22)).alloc (.cells #[.int .i64 0, .int .i64 0, .int .i64 0, .int .i64 0, .int .i64 0, .slice none 0 0] 24)).alloc (.cells #[.int .i64 0] 3)).alloc (.cells #[.int .i64 0] 27)) (.cells #[.int .i64 0, .int .i64 0, .int .i64 0, .int .i64 0, .int .i64 0] 94)
      simpa using this
    · exact below_alloc (below_alloc (below_alloc (below_alloc (below_alloc (Below.refl _ _) _) _) _) _) _
  have HP := Aside0.mk hP
  clear hb1 hP
  go_wp2_with (fail)
  go_loopw [15] (fun v15 wr => ∃ i : Int, v15 = .int .i64 i ∧ Aside0 (UnpAt A0 c0 l0 w wr i)) (fun v15 _ => (5 - intOf v15).toNat)
  case atStart => exact ⟨0, rfl, ⟨.inl ⟨rfl, HP.out⟩⟩⟩
  case round =>
    clear HP
    obtain ⟨i, rfl, HA⟩ := hrel
    rcases HA.out with ⟨rfl, hP⟩ | ⟨rfl, hP⟩ | ⟨rfl, hP⟩ | ⟨rfl, hP⟩ | ⟨rfl, hP⟩ | ⟨rfl, hP⟩
    · have HW := Aside0.mk (UnpW.alloc hP (.cells #[.int .i64 1, .int .i64 4] 96))
      clear hP HA
      have hix := wire_limits.at0
      go_wp2_with (fail)
      clear hix
      refine (wire_Unpack_1.calls 1 4 0 0 (Pl.u0 l0).1 (Pl.u0 l0).2.1 (Pl.u0 l0).2.2 (w.heap.size + 1 + 1 + 1) w.heap.size (w.heap.size + 1 + 1) A0 c0 l0 w _ rfl HY.out hlen HW.out.2.2.2.1 HW.out.2.2.1 HW.out.1 (Kd.C_below HR.out HW.out.2.2.2.2.2) HC.out (by omega) (by omega) HW.out.2.2.2.2.2).mono ?_
      rintro e w3 ⟨rfl, g1, g2, g3, g4⟩
      have HP3 := Aside0.mk (UnpW.called HW.out g1 g2 g3 g4)
      clear g1 g2 g3 g4 HW
      have c4 : w3.cell? ⟨w.heap.size + 1 + 1 + 1 + 1, 0, none⟩ = some (.int .i64 0) := by rw [blk_cell HP3.out.2.2.2.2.1]; rfl
      have f4 : w3.frozen? ⟨w.heap.size + 1 + 1 + 1 + 1, 0, none⟩ = false := blk_frozen HP3.out.2.2.2.2.1 0
      go_wp2_with (fail)
      exact ⟨⟨1, rfl, ⟨.inr (.inl ⟨rfl, HP3.out.put0 _⟩)⟩⟩, by simp [intOf]⟩
    · have HW := Aside0.mk (UnpW.alloc hP (.cells #[.int .i64 0, .int .i64 59] 96))
      clear hP HA
      have hix := wire_limits.at1
      go_wp2_with (fail)
      clear hix
      refine (wire_Unpack_1.calls 0 59 (Pl.u0 l0).2.1 (Pl.u0 l0).2.2 (Pl.u1 l0).1 (Pl.u1 l0).2.1 (Pl.u1 l0).2.2 (w.heap.size + 1 + 1 + 1) w.heap.size (w.heap.size + 1 + 1) A0 c0 l0 w _ rfl HY.out hlen HW.out.2.2.2.1 HW.out.2.2.1 HW.out.1 (Kd.C_below HR.out HW.out.2.2.2.2.2) HC.out (by omega) (by omega) HW.out.2.2.2.2.2).mono ?_
      rintro e w3 ⟨rfl, g1, g2, g3, g4⟩
      have HP3 := Aside0.mk (UnpW.called HW.out g1 g2 g3 g4)
      clear g1 g2 g3 g4 HW
      have c4 : w3.cell? ⟨w.heap.size + 1 + 1 + 1 + 1, 1, none⟩ = some (.int .i64 0) := by rw [blk_cell HP3.out.2.2.2.2.1]; rfl
      have f4 : w3.frozen? ⟨w.heap.size + 1 + 1 + 1 + 1, 1, none⟩ = false := blk_frozen HP3.out.2.2.2.2.1 1
      go_wp2_with (fail)
      exact ⟨⟨2, rfl, ⟨.inr (.inr (.inl ⟨rfl, HP3.out.put1 _⟩))⟩⟩, by simp [intOf]⟩
    · have HW := Aside0.mk (UnpW.alloc hP (.cells #[.int .i64 (-1), .int .i64 59] 96))
      clear hP HA
      have hix := wire_limits.at2
      go_wp2_with (fail)
      clear hix
      refine (wire_Unpack_1.calls (-1) 59 (Pl.u1 l0).2.1 (Pl.u1 l0).2.2 (Pl.u2 l0).1 (Pl.u2 l0).2.1 (Pl.u2 l0).2.2 (w.heap.size + 1 + 1 + 1) w.heap.size (w.heap.size + 1 + 1) A0 c0 l0 w _ rfl HY.out hlen HW.out.2.2.2.1 HW.out.2.2.1 HW.out.1 (Kd.C_below HR.out HW.out.2.2.2.2.2) HC.out (by omega) (by omega) HW.out.2.2.2.2.2).mono ?_
      rintro e w3 ⟨rfl, g1, g2, g3, g4⟩
      have HP3 := Aside0.mk (UnpW.called HW.out g1 g2 g3 g4)
      clear g1 g2 g3 g4 HW
      have c4 : w3.cell? ⟨w.heap.size + 1 + 1 + 1 + 1, 2, none⟩ = some (.int .i64 0) := by rw [blk_cell HP3.out.2.2.2.2.1]; rfl
      have f4 : w3.frozen? ⟨w.heap.size + 1 + 1 + 1 + 1, 2, none⟩ = false := blk_frozen HP3.out.2.2.2.2.1 2
      go_wp2_with (fail)
      exact ⟨⟨3, rfl, ⟨.inr (.inr (.inr (.inl ⟨rfl, HP3.out.put2 _⟩)))⟩⟩, by simp [intOf]⟩
    · have HW := Aside0.mk (UnpW.alloc hP (.cells #[.int .i64 0, .int .i64 1000000000] 96))
      clear hP HA
      have hix := wire_limits.at3
      go_wp2_with (fail)
      clear hix
      refine (wire_Unpack_1.calls 0 1000000000 (Pl.u2 l0).2.1 (Pl.u2 l0).2.2 (Pl.u3 l0).1 (Pl.u3 l0).2.1 (Pl.u3 l0).2.2 (w.heap.size + 1 + 1 + 1) w.heap.size (w.heap.size + 1 + 1) A0 c0 l0 w _ rfl HY.out hlen HW.out.2.2.2.1 HW.out.2.2.1 HW.out.1 (Kd.C_below HR.out HW.out.2.2.2.2.2) HC.out (by omega) (by omega) HW.out.2.2.2.2.2).mono ?_
      rintro e w3 ⟨rfl, g1, g2, g3, g4⟩
      have HP3 := Aside0.mk (UnpW.called HW.out g1 g2 g3 g4)
      clear g1 g2 g3 g4 HW
      have c4 : w3.cell? ⟨w.heap.size + 1 + 1 + 1 + 1, 3, none⟩ = some (.int .i64 0) := by rw [blk_cell HP3.out.2.2.2.2.1]; rfl
      have f4 : w3.frozen? ⟨w.heap.size + 1 + 1 + 1 + 1, 3, none⟩ = false := blk_frozen HP3.out.2.2.2.2.1 3
      go_wp2_with (fail)
      exact ⟨⟨4, rfl, ⟨.inr (.inr (.inr (.inr (.inl ⟨rfl, HP3.out.put3 _⟩))))⟩⟩, by simp [intOf]⟩
    · have HW := Aside0.mk (UnpW.alloc hP (.cells #[.int .i64 0, .int .i64 2000000] 96))
      clear hP HA
      have hix := wire_limits.at4
      go_wp2_with (fail)
      clear hix
      refine (wire_Unpack_1.calls 0 2000000 (Pl.u3 l0).2.1 (Pl.u3 l0).2.2 (Pl.u4 l0).1 (Pl.u4 l0).2.1 (Pl.u4 l0).2.2 (w.heap.size + 1 + 1 + 1) w.heap.size (w.heap.size + 1 + 1) A0 c0 l0 w _ rfl HY.out hlen HW.out.2.2.2.1 HW.out.2.2.1 HW.out.1 (Kd.C_below HR.out HW.out.2.2.2.2.2) HC.out (by omega) (by omega) HW.out.2.2.2.2.2).mono ?_
      rintro e w3 ⟨rfl, g1, g2, g3, g4⟩
      have HP3 := Aside0.mk (UnpW.called HW.out g1 g2 g3 g4)
      clear g1 g2 g3 g4 HW
      have c4 : w3.cell? ⟨w.heap.size + 1 + 1 + 1 + 1, 4, none⟩ = some (.int .i64 0) := by rw [blk_cell HP3.out.2.2.2.2.1]; rfl
      have f4 : w3.frozen? ⟨w.heap.size + 1 + 1 + 1 + 1, 4, none⟩ = false := blk_frozen HP3.out.2.2.2.2.1 4
      go_wp2_with (fail)
      exact ⟨⟨5, rfl, ⟨.inr (.inr (.inr (.inr (.inr (⟨rfl, HP3.out.put4 _⟩)))))⟩⟩, by simp [intOf]⟩
    · have ce : wr.cell? ⟨w.heap.size + 1 + 1 + 1, 0, none⟩ = some (.int .i64 (Pl.u4 l0).2.2) := by rw [blk_cell hP.2.2.2.1]; rfl
      have ca : wr.cell? ⟨w.heap.size + 1 + 1, 0, none⟩ = some (.int .i64 (Pl.u4 l0).2.1) := by rw [blk_cell hP.2.2.1]; rfl
      have cb : wr.cell? ⟨w.heap.size, 0, none⟩ = some (.slice A0 l0.length c0) := by rw [blk_cell hP.1]; rfl
      have HP := Aside0.mk hP
      clear hP HA
      have hh := HH.out
      clear HH
      obtain ⟨E, hE⟩ : ∃ E, (Pl.u4 l0).2.2 = E := ⟨_, rfl⟩
      rw [hE] at ce HP hh
      clear hE
      by_cases hE0 : E = 0
      · subst hE0
        rw [if_pos rfl] at hh
        obtain ⟨⟨bb1, bb2, bb3⟩, hbb, hh2⟩ := Option.bind_eq_some_iff.1 hh
        clear hh
        have BB := Aside0.mk hbb
        clear hbb
        simp only at hh2
        by_cases hb3 : bb3 = 0
        · subst hb3
          rw [if_pos rfl] at hh2
          by_cases hend : bb2 < (l0.length : Int)
          · rw [if_pos hend] at hh2
            simp only [Option.some.injEq, Prod.mk.injEq] at hh2
            obtain ⟨rfl, rfl, rfl, rfl, rfl, rfl, rfl⟩ := hh2
            have hendb : decide (bb2 < (l0.length : Int)) = true := decide_eq_true hend
            clear hend
            go_wp2_with (fail)
            refine (wire_Bytes.calls k A0 c0 l0 (Pl.u4 l0).2.1 _ _ _ _ (Kd.C_below HR.out HP.out.2.2.2.2.2) HC.out BB.out).mono ?_
            rintro e w6 ⟨v6, rfl, ho6, hb6⟩
            have HP6 := Aside0.mk (UnpW.below HP.out hb6)
            have HO6 := Aside0.mk ho6
            have cb6 : w6.cell? ⟨w.heap.size, 0, none⟩ = some (.slice A0 l0.length c0) := by rw [blk_cell HP6.out.1]; rfl
            have ls1 : wr.heap.size ≤ w6.heap.size := hb6.size
            have ls2 : w.heap.size ≤ wr.heap.size := HP.out.2.2.2.2.2.size
            clear ho6 hb6 ce ca cb HP
            have o0 : w6.cell? ⟨w.heap.size + 1, 0, none⟩ = some (.int .i64 0) := by rw [blk_cell HP6.out.2.1]; rfl
            have o1 : w6.cell? ⟨w.heap.size + 1, 1, none⟩ = some (.int .i64 0) := by rw [blk_cell HP6.out.2.1]; rfl
            have o2 : w6.cell? ⟨w.heap.size + 1, 2, none⟩ = some (.int .i64 0) := by rw [blk_cell HP6.out.2.1]; rfl
            have o3 : w6.cell? ⟨w.heap.size + 1, 3, none⟩ = some (.int .i64 0) := by rw [blk_cell HP6.out.2.1]; rfl
            have o4 : w6.cell? ⟨w.heap.size + 1, 4, none⟩ = some (.int .i64 0) := by rw [blk_cell HP6.out.2.1]; rfl
            have o5 : w6.cell? ⟨w.heap.size + 1, 5, none⟩ = some (.slice none 0 0) := by rw [blk_cell HP6.out.2.1]; rfl
            have ff : ∀ i, w6.frozen? ⟨w.heap.size + 1, i, none⟩ = false := fun i => blk_frozen HP6.out.2.1 i
            go_wp2_with (fail)
            refine bodyPost_ret (v := .tuple #[.agg #[.int .i64 0, .int .i64 0, .int .i64 0, .int .i64 0, .int .i64 0, .slice none 0 0], .int .i64 11]) ?_ rfl ⟨_, rfl, Kd.R_nil _ _ _ _ _, ?_⟩
            · simp [results, Try.results30, go_sem, o0, o1, o2, o3, o4, o5]
            · exact below_set (below_set (below_set (below_set (below_set (below_set HP6.out.2.2.2.2.2 (by omega)) (by omega)) (by omega)) (by omega)) (by omega)) (by omega)
          · rw [if_neg hend] at hh2
            simp only [Option.some.injEq, Prod.mk.injEq] at hh2
            obtain ⟨rfl, rfl, rfl, rfl, rfl, rfl, rfl⟩ := hh2
            have hendb : decide (bb2 < (l0.length : Int)) = false := decide_eq_false hend
            clear hend
            go_wp2_with (fail)
            refine (wire_Bytes.calls k A0 c0 l0 (Pl.u4 l0).2.1 _ _ _ _ (Kd.C_below HR.out HP.out.2.2.2.2.2) HC.out BB.out).mono ?_
            rintro e w6 ⟨v6, rfl, ho6, hb6⟩
            obtain ⟨A6, c6, hv6⟩ := Kd.R_slice ho6
            subst hv6
            have HP6 := Aside0.mk (UnpW.below HP.out hb6)
            have HO6 := Aside0.mk ho6
            have cb6 : w6.cell? ⟨w.heap.size, 0, none⟩ = some (.slice A0 l0.length c0) := by rw [blk_cell HP6.out.1]; rfl
            have ls1 : wr.heap.size ≤ w6.heap.size := hb6.size
            have ls2 : w.heap.size ≤ wr.heap.size := HP.out.2.2.2.2.2.size
            clear ho6 hb6 ce ca cb HP
            have o0 : w6.cell? ⟨w.heap.size + 1, 0, none⟩ = some (.int .i64 0) := by rw [blk_cell HP6.out.2.1]; rfl
            have o1 : w6.cell? ⟨w.heap.size + 1, 1, none⟩ = some (.int .i64 0) := by rw [blk_cell HP6.out.2.1]; rfl
            have o2 : w6.cell? ⟨w.heap.size + 1, 2, none⟩ = some (.int .i64 0) := by rw [blk_cell HP6.out.2.1]; rfl
            have o3 : w6.cell? ⟨w.heap.size + 1, 3, none⟩ = some (.int .i64 0) := by rw [blk_cell HP6.out.2.1]; rfl
            have o4 : w6.cell? ⟨w.heap.size + 1, 4, none⟩ = some (.int .i64 0) := by rw [blk_cell HP6.out.2.1]; rfl
            have o5 : w6.cell? ⟨w.heap.size + 1, 5, none⟩ = some (.slice none 0 0) := by rw [blk_cell HP6.out.2.1]; rfl
            have ff : ∀ i, w6.frozen? ⟨w.heap.size + 1, i, none⟩ = false := fun i => blk_frozen HP6.out.2.1 i
            have a0 : w6.cell? ⟨w.heap.size + 1 + 1 + 1 + 1, 0, none⟩ = some (.int .i64 (Pl.u0 l0).1) := by rw [blk_cell HP6.out.2.2.2.2.1]; rfl
            have a1 : w6.cell? ⟨w.heap.size + 1 + 1 + 1 + 1, 1, none⟩ = some (.int .i64 (Pl.u1 l0).1) := by rw [blk_cell HP6.out.2.2.2.2.1]; rfl
            have a2 : w6.cell? ⟨w.heap.size + 1 + 1 + 1 + 1, 2, none⟩ = some (.int .i64 (Pl.u2 l0).1) := by rw [blk_cell HP6.out.2.2.2.2.1]; rfl
            have a3 : w6.cell? ⟨w.heap.size + 1 + 1 + 1 + 1, 3, none⟩ = some (.int .i64 (Pl.u3 l0).1) := by rw [blk_cell HP6.out.2.2.2.2.1]; rfl
            have a4 : w6.cell? ⟨w.heap.size + 1 + 1 + 1 + 1, 4, none⟩ = some (.int .i64 (Pl.u4 l0).1) := by rw [blk_cell HP6.out.2.2.2.2.1]; rfl
            go_wp2_with (fail)
            refine bodyPost_ret (v := .tuple #[.agg #[.int .i64 (Pl.u0 l0).1, .int .i64 (Pl.u1 l0).1, .int .i64 (Pl.u2 l0).1, .int .i64 (Pl.u3 l0).1, .int .i64 (Pl.u4 l0).1, .slice A6 _ c6], .int .i64 0]) ?_ rfl ⟨_, rfl, Kd.R_lower (Kd.R_mono (Kd.R_step (Kd.R_types HO6.out HP6.out.2.1 (by decide)) (fun k_ hk_ _ => ?_)) (fun _ _ => trivial)) ls2, ?_⟩
            · simp [results, Try.results30, go_sem, o0, o1, o2, o3, o4, o5]
            · have hk2 : k_ ≠ w.heap.size + 1 := hk_.2
              rw [Below.heap_setCell _ _ _ _ hk2, Below.heap_setCell _ _ _ _ hk2, Below.heap_setCell _ _ _ _ hk2, Below.heap_setCell _ _ _ _ hk2, Below.heap_setCell _ _ _ _ hk2, Below.heap_setCell _ _ _ _ hk2]
            · exact below_set (below_set (below_set (below_set (below_set (below_set HP6.out.2.2.2.2.2 (by omega)) (by omega)) (by omega)) (by omega)) (by omega)) (by omega)
        · rw [if_neg hb3] at hh2
          simp only [Option.some.injEq, Prod.mk.injEq] at hh2
          obtain ⟨rfl, rfl, rfl, rfl, rfl, rfl, rfl⟩ := hh2
          have hb3b : (bb3 == 0) = false := beq_eq_false_iff_ne.2 hb3
          have hb3n : (bb3 != 0) = true := bne_iff_ne.2 hb3
          clear hb3
          go_wp2_with (fail)
          refine (wire_Bytes.calls k A0 c0 l0 (Pl.u4 l0).2.1 _ _ _ _ (Kd.C_below HR.out HP.out.2.2.2.2.2) HC.out BB.out).mono ?_
          rintro e w6 ⟨v6, rfl, ho6, hb6⟩
          have HP6 := Aside0.mk (UnpW.below HP.out hb6)
          have HO6 := Aside0.mk ho6
          have cb6 : w6.cell? ⟨w.heap.size, 0, none⟩ = some (.slice A0 l0.length c0) := by rw [blk_cell HP6.out.1]; rfl
          have ls1 : wr.heap.size ≤ w6.heap.size := hb6.size
          have ls2 : w.heap.size ≤ wr.heap.size := HP.out.2.2.2.2.2.size
          clear ho6 hb6 ce ca cb HP
          have o0 : w6.cell? ⟨w.heap.size + 1, 0, none⟩ = some (.int .i64 0) := by rw [blk_cell HP6.out.2.1]; rfl
          have o1 : w6.cell? ⟨w.heap.size + 1, 1, none⟩ = some (.int .i64 0) := by rw [blk_cell HP6.out.2.1]; rfl
          have o2 : w6.cell? ⟨w.heap.size + 1, 2, none⟩ = some (.int .i64 0) := by rw [blk_cell HP6.out.2.1]; rfl
          have o3 : w6.cell? ⟨w.heap.size + 1, 3, none⟩ = some (.int .i64 0) := by rw [blk_cell HP6.out.2.1]; rfl
          have o4 : w6.cell? ⟨w.heap.size + 1, 4, none⟩ = some (.int .i64 0) := by rw [blk_cell HP6.out.2.1]; rfl
          have o5 : w6.cell? ⟨w.heap.size + 1, 5, none⟩ = some (.slice none 0 0) := by rw [blk_cell HP6.out.2.1]; rfl
          have ff : ∀ i, w6.frozen? ⟨w.heap.size + 1, i, none⟩ = false := fun i => blk_frozen HP6.out.2.1 i
          go_wp2_with (fail)
          refine bodyPost_ret (v := .tuple #[.agg #[.int .i64 0, .int .i64 0, .int .i64 0, .int .i64 0, .int .i64 0, .slice none 0 0], .int .i64 bb3]) ?_ rfl ⟨_, rfl, Kd.R_nil _ _ _ _ _, ?_⟩
          · simp [results, Try.results30, go_sem, o0, o1, o2, o3, o4, o5]
          · exact below_set (below_set (below_set (below_set (below_set (below_set HP6.out.2.2.2.2.2 (by omega)) (by omega)) (by omega)) (by omega)) (by omega)) (by omega)
      · rw [if_neg hE0] at hh
        simp only [Option.some.injEq, Prod.mk.injEq] at hh
        obtain ⟨rfl, rfl, rfl, rfl, rfl, rfl, rfl⟩ := hh
        have hEb : (E == 0) = false := beq_eq_false_iff_ne.2 hE0
        have hEn : (E != 0) = true := bne_iff_ne.2 hE0
        clear hE0
        have o0 : wr.cell? ⟨w.heap.size + 1, 0, none⟩ = some (.int .i64 0) := by rw [blk_cell HP.out.2.1]; rfl
        have o1 : wr.cell? ⟨w.heap.size + 1, 1, none⟩ = some (.int .i64 0) := by rw [blk_cell HP.out.2.1]; rfl
        have o2 : wr.cell? ⟨w.heap.size + 1, 2, none⟩ = some (.int .i64 0) := by rw [blk_cell HP.out.2.1]; rfl
        have o3 : wr.cell? ⟨w.heap.size + 1, 3, none⟩ = some (.int .i64 0) := by rw [blk_cell HP.out.2.1]; rfl
        have o4 : wr.cell? ⟨w.heap.size + 1, 4, none⟩ = some (.int .i64 0) := by rw [blk_cell HP.out.2.1]; rfl
        have o5 : wr.cell? ⟨w.heap.size + 1, 5, none⟩ = some (.slice none 0 0) := by rw [blk_cell HP.out.2.1]; rfl
        have ff : ∀ i, wr.frozen? ⟨w.heap.size + 1, i, none⟩ = false := fun i => blk_frozen HP.out.2.1 i
        go_wp2_with (fail)
        go_region
        go_wp2_with (fail)
        refine bodyPost_ret (v := .tuple #[.agg #[.int .i64 0, .int .i64 0, .int .i64 0, .int .i64 0, .int .i64 0, .slice none 0 0], .int .i64 E]) ?_ rfl ⟨_, rfl, Kd.R_nil _ _ _ _ _, ?_⟩
        · simp [results, Try.results30, go_sem, o0, o1, o2, o3, o4, o5]
        · exact below_drew1 (below_set (below_set (below_set (below_set (below_set (below_set HP.out.2.2.2.2.2 (by omega)) (by omega)) (by omega)) (by omega)) (by omega)) (by omega))

/-! ### slotmeshref04_SameFrame: function 32 -/
def slotmeshref04_SameFrame.f (k : Nat) (a0_0 : Int) (a0_1 : Int) (a0_2 : Int) (a0_3 : Int) (a0_4 : Int) (l0_5 : List Int) (a1_0 : Int) (a1_1 : Int) (a1_2 : Int) (a1_3 : Int) (a1_4 : Int) (l1_5 : List Int) : Option (Bool) := (slotmeshref04_Same.f k l0_5 l1_5).bind fun t134 => (if t134 = true then (if a0_0 = a1_0 then (if a0_1 = a1_1 then (if a0_2 = a1_2 then (if a0_3 = a1_3 then (some (a0_4 == a1_4)) else (some false)) else (some false)) else (some false)) else (some false)) else (some false))
theorem slotmeshref04_SameFrame.mono : ∀ a0 a1 a2 a3 a4 a5 a6 a7 a8 a9 a10 a11 k, LeO (slotmeshref04_SameFrame.f k a0 a1 a2 a3 a4 a5 a6 a7 a8 a9 a10 a11) (slotmeshref04_SameFrame.f (k + 1) a0 a1 a2 a3 a4 a5 a6 a7 a8 a9 a10 a11) := by
  intro a0 a1 a2 a3 a4 a5 a6 a7 a8 a9 a10 a11 k
  unfold slotmeshref04_SameFrame.f
  repeat' first
      | (with_reducible exact slotmeshref04_Same.mono _ _ _)
      | (with_reducible exact LeO.refl _)
      | (with_reducible exact LeO.none _)
      | (with_reducible refine LeO.ite ?_ ?_)
      | (with_reducible refine LeO.bind ?_ (fun _ => ?_))
      | exact slotmeshref04_Same.mono _ _ _
      | exact LeO.none _
      | refine LeO.ite ?_ ?_
      | refine LeO.bind ?_ (fun _ => ?_)
set_option maxHeartbeats 8000000 in
set_option maxRecDepth 100000 in
theorem slotmeshref04_SameFrame.calls (k : Nat) (a0_0 : Int) (a0_1 : Int) (a0_2 : Int) (a0_3 : Int) (a0_4 : Int) (A0_5 : Option Addr) (c0_5 : Nat) (l0_5 : List Int) (a1_0 : Int) (a1_1 : Int) (a1_2 : Int) (a1_3 : Int) (a1_4 : Int) (A1_5 : Option Addr) (c1_5 : Nat) (l1_5 : List Int) (r : Bool) (w : World) (hr0_5 : Kd.C (Kd.int .u8) w A0_5 l0_5.length l0_5) (hc0_5 : l0_5.length ≤ c0_5) (hr1_5 : Kd.C (Kd.int .u8) w A1_5 l1_5.length l1_5) (hc1_5 : l1_5.length ≤ c1_5) (h : slotmeshref04_SameFrame.f k a0_0 a0_1 a0_2 a0_3 a0_4 l0_5 a1_0 a1_1 a1_2 a1_3 a1_4 l1_5 = some r) :
    Calls Try.prog 32 #[.agg #[.int .i64 a0_0, .int .i64 a0_1, .int .i64 a0_2, .int .i64 a0_3, .int .i64 a0_4, .slice A0_5 l0_5.length c0_5], .agg #[.int .i64 a1_0, .int .i64 a1_1, .int .i64 a1_2, .int .i64 a1_3, .int .i64 a1_4, .slice A1_5 l1_5.length c1_5]] w fun e w' => e = .returned (.bool r) ∧ Below w.heap.size w w' := by
  have hu24 := Try.underlying24
  have HR0_5 := Aside0.mk hr0_5
  have HC0_5 := Aside0.mk hc0_5
  clear hr0_5 hc0_5
  have HR1_5 := Aside0.mk hr1_5
  have HC1_5 := Aside0.mk hc1_5
  clear hr1_5 hc1_5
  have HB := Aside0.mk (Below.refl w.heap.size w)
  have H : ((slotmeshref04_Same.f k l0_5 l1_5).bind fun t134 => (if t134 = true then (if a0_0 = a1_0 then (if a0_1 = a1_1 then (if a0_2 = a1_2 then (if a0_3 = a1_3 then (some (a0_4 == a1_4)) else (some false)) else (some false)) else (some false)) else (some false)) else (some false))) = some r := h
  clear h
  replace H := Option.bind_eq_some_iff.mp H
  obtain ⟨t134, A30, H⟩ := H
  replace H : (if t134 = true then (if a0_0 = a1_0 then (if a0_1 = a1_1 then (if a0_2 = a1_2 then (if a0_3 = a1_3 then (some (a0_4 == a1_4)) else (some false)) else (some false)) else (some false)) else (some false)) else (some false)) = some r := H
  have A3 := Aside0.mk A30
  clear A30
  by_cases c4 : t134 = true
  · subst c4
    have H1 : (if a0_0 = a1_0 then (if a0_1 = a1_1 then (if a0_2 = a1_2 then (if a0_3 = a1_3 then (some (a0_4 == a1_4)) else (some false)) else (some false)) else (some false)) else (some false)) = some r := by rw [if_pos rfl] at H; exact H
    clear H
    have H := H1
    clear H1
    by_cases c5 : a0_0 = a1_0
    · rw [if_pos c5] at H
      have c5b0 : (a0_0 == a1_0) = true := beq_iff_eq.mpr c5
      have c5b1 : (a0_0 != a1_0) = false := bne_eq_false_iff_eq.mpr c5
      clear c5
      by_cases c6 : a0_1 = a1_1
      · rw [if_pos c6] at H
        have c6b0 : (a0_1 == a1_1) = true := beq_iff_eq.mpr c6
        have c6b1 : (a0_1 != a1_1) = false := bne_eq_false_iff_eq.mpr c6
        clear c6
        by_cases c7 : a0_2 = a1_2
        · rw [if_pos c7] at H
          have c7b0 : (a0_2 == a1_2) = true := beq_iff_eq.mpr c7
          have c7b1 : (a0_2 != a1_2) = false := bne_eq_false_iff_eq.mpr c7
          clear c7
          by_cases c8 : a0_3 = a1_3
          · rw [if_pos c8] at H
            have c8b0 : (a0_3 == a1_3) = true := beq_iff_eq.mpr c8
            have c8b1 : (a0_3 != a1_3) = false := bne_eq_false_iff_eq.mpr c8
            clear c8
            obtain rfl := Option.some.inj H
            go_enter Try.func32, Try.ntmps32
            go_wp2_with (first | ((with_reducible refine gate_dst (N := 2) rfl ?_); refine box_event ?hg (N := 2) ?hd (cs := #[.int .i64 a0_0, .int .i64 a0_1, .int .i64 a0_2, .int .i64 a0_3, .int .i64 a0_4, .slice A0_5 l0_5.length c0_5]) (t := 24) ?hr ?_; (case hd => rfl); (case hg => rfl); (case hr => first | (go_simp; done) | (go_simp; rfl)); intro gb132 hg w9 hbox hb; have n0_ := Aside0.mk (below_step (by repeat (first | (with_reducible first | exact HB.out | apply below_alloc | apply pw_below_drewN | apply below_drew1) | exact HB.out)) hb); have n1_ := Aside0.mk (hbox); have n2_ := Aside0.mk ((by rw [hg]; exact (below_size (by repeat (first | (with_reducible first | exact HB.out | apply below_alloc | apply pw_below_drewN | apply below_drew1) | exact HB.out))) : w.heap.size ≤ gb132)); have n3_ := Aside0.mk ((by rw [hg]; exact (below_size (by repeat (first | (with_reducible first | exact HB.out | apply below_alloc | apply pw_below_drewN | apply below_drew1) | exact HB.out))) : w.heap.size ≤ gb132)); clear HB; have HB := n0_; have BK132 := n1_; have GW132 := n2_; have GE132 := n3_; clear n0_ n1_ n2_ n3_; clear hb hbox hg) | ((with_reducible refine gate_dst (N := 3) rfl ?_); refine box_event ?hg (N := 3) ?hd (cs := #[.int .i64 a1_0, .int .i64 a1_1, .int .i64 a1_2, .int .i64 a1_3, .int .i64 a1_4, .slice A1_5 l1_5.length c1_5]) (t := 24) ?hr ?_; (case hd => rfl); (case hg => rfl); (case hr => first | (go_simp; done) | (go_simp; rfl)); intro gb133 hg w10 hbox hb; have n0_ := Aside0.mk (blk_below (g := gb132) (o := .cells #[.int .i64 a0_0, .int .i64 a0_1, .int .i64 a0_2, .int .i64 a0_3, .int .i64 a0_4, .slice A0_5 l0_5.length c0_5] 24 (0, 0)) (by (with_reducible repeat (first | refine blk_drewN ?_ _ | refine blk_drew ?_ | refine blk_alloc ?_ _)); exact BK132.out) hb); have n1_ := Aside0.mk (below_step (by repeat (first | (with_reducible first | exact HB.out | apply below_alloc | apply pw_below_drewN | apply below_drew1 | refine below_set ?_ GE132.out) | exact HB.out)) hb); have n2_ := Aside0.mk (hbox); have n3_ := Aside0.mk ((by rw [hg]; exact (below_size (by repeat (first | (with_reducible first | exact HB.out | apply below_alloc | apply pw_below_drewN | apply below_drew1 | refine below_set ?_ GE132.out) | exact HB.out))) : w.heap.size ≤ gb133)); have n4_ := Aside0.mk ((by rw [hg]; exact (below_size (by repeat (first | (with_reducible first | exact HB.out | apply below_alloc | apply pw_below_drewN | apply below_drew1 | refine below_set ?_ GE132.out) | exact HB.out))) : w.heap.size ≤ gb133)); have n5_ := Aside0.mk ((by rw [hg]; exact Nat.ne_of_lt (blk_lt (g := gb132) (o := .cells #[.int .i64 a0_0, .int .i64 a0_1, .int .i64 a0_2, .int .i64 a0_3, .int .i64 a0_4, .slice A0_5 l0_5.length c0_5] 24 (0, 0)) (by (with_reducible repeat (first | refine blk_drewN ?_ _ | refine blk_drew ?_ | refine blk_alloc ?_ _)); exact BK132.out)) : gb132 ≠ gb133)); have n6_ := Aside0.mk ((by rw [hg]; exact Nat.ne_of_gt (blk_lt (g := gb132) (o := .cells #[.int .i64 a0_0, .int .i64 a0_1, .int .i64 a0_2, .int .i64 a0_3, .int .i64 a0_4, .slice A0_5 l0_5.length c0_5] 24 (0, 0)) (by (with_reducible repeat (first | refine blk_drewN ?_ _ | refine blk_drew ?_ | refine blk_alloc ?_ _)); exact BK132.out)) : gb133 ≠ gb132)); clear BK132; clear HB; have BK132 := n0_; have HB := n1_; have BK133 := n2_; have GW133 := n3_; have GE133 := n4_; have NB132_133 := n5_; have NB133_132 := n6_; clear n0_ n1_ n2_ n3_ n4_ n5_ n6_; clear hb hbox hg; have hnb11 := NB132_133.out; have hnc11 := NB133_132.out; have hcz12_0 : w10.cell? ⟨gb132, 0, none⟩ = some (.int .i64 a0_0) := (blk_cell BK132.out 0).trans rfl; have hcz12_1 : w10.cell? ⟨gb132, 1, none⟩ = some (.int .i64 a0_1) := (blk_cell BK132.out 1).trans rfl; have hcz12_2 : w10.cell? ⟨gb132, 2, none⟩ = some (.int .i64 a0_2) := (blk_cell BK132.out 2).trans rfl; have hcz12_3 : w10.cell? ⟨gb132, 3, none⟩ = some (.int .i64 a0_3) := (blk_cell BK132.out 3).trans rfl; have hcz12_4 : w10.cell? ⟨gb132, 4, none⟩ = some (.int .i64 a0_4) := (blk_cell BK132.out 4).trans rfl; have hcz12_5 : w10.cell? ⟨gb132, 5, none⟩ = some (.slice A0_5 l0_5.length c0_5) := (blk_cell BK132.out 5).trans rfl; have hfz12_0 := blk_frozen BK132.out 0; have hfz12_1 := blk_frozen BK132.out 1; have hfz12_2 := blk_frozen BK132.out 2; have hfz12_3 := blk_frozen BK132.out 3; have hfz12_4 := blk_frozen BK132.out 4; have hfz12_5 := blk_frozen BK132.out 5; have hcz13_0 : w10.cell? ⟨gb133, 0, none⟩ = some (.int .i64 a1_0) := (blk_cell BK133.out 0).trans rfl; have hcz13_1 : w10.cell? ⟨gb133, 1, none⟩ = some (.int .i64 a1_1) := (blk_cell BK133.out 1).trans rfl; have hcz13_2 : w10.cell? ⟨gb133, 2, none⟩ = some (.int .i64 a1_2) := (blk_cell BK133.out 2).trans rfl; have hcz13_3 : w10.cell? ⟨gb133, 3, none⟩ = some (.int .i64 a1_3) := (blk_cell BK133.out 3).trans rfl; have hcz13_4 : w10.cell? ⟨gb133, 4, none⟩ = some (.int .i64 a1_4) := (blk_cell BK133.out 4).trans rfl; have hcz13_5 : w10.cell? ⟨gb133, 5, none⟩ = some (.slice A1_5 l1_5.length c1_5) := (blk_cell BK133.out 5).trans rfl; have hfz13_0 := blk_frozen BK133.out 0; have hfz13_1 := blk_frozen BK133.out 1; have hfz13_2 := blk_frozen BK133.out 2; have hfz13_3 := blk_frozen BK133.out 3; have hfz13_4 := blk_frozen BK133.out 4; have hfz13_5 := blk_frozen BK133.out 5) | ((with_reducible refine gate_callee (f := 21) rfl ?_); refine goesL_ (some 10) rfl rfl Try.func21 (by kernel_rfl) rfl #[.slice A0_5 l0_5.length c0_5, .slice A1_5 l1_5.length c1_5] rfl (by (try simp only [List.map_toArray, List.map_cons, List.map_nil]); first | done | rfl | (simp only [List.length_drop, List.length_take]; rfl)) ?_; (with_reducible refine (slotmeshref04_Same.calls k _ _ l0_5 _ _ l1_5 true _ ?side1 ?side2 ?side3 ?side4 A3.out).mono ?_); (case side1 => repeat (first | exact (Kd.C_below HR0_5.out HB.out) | (with_reducible refine Kd.C_alloc ?_ _) | (with_reducible refine Kd.C_drewN ?_ _) | (with_reducible refine Kd.C_drew ?_))); (case side2 => exact HC0_5.out); (case side3 => repeat (first | exact (Kd.C_below HR1_5.out HB.out) | (with_reducible refine Kd.C_alloc ?_ _) | (with_reducible refine Kd.C_drewN ?_ _) | (with_reducible refine Kd.C_drew ?_))); (case side4 => exact HC1_5.out); rintro e w' ⟨rfl, ⟨nd, rfl⟩⟩; refine ⟨_, rfl, ?_⟩))
            go_ret
            exact ⟨by first | rfl | (simp [errW_none, errW_some] <;> rfl) | (simp [*, errW_none, errW_some] <;> rfl), by repeat (first | (with_reducible first | exact HB.out | apply below_alloc | apply pw_below_drewN | apply below_drew1 | refine below_set ?_ GE132.out | refine below_set ?_ GE133.out) | exact HB.out)⟩
          · rw [if_neg c8] at H
            have c8b0 : (a0_3 == a1_3) = false := beq_eq_false_iff_ne.mpr c8
            have c8b1 : (a0_3 != a1_3) = true := bne_iff_ne.mpr c8
            obtain rfl := Option.some.inj H
            go_enter Try.func32, Try.ntmps32
            go_wp2_with (first | ((with_reducible refine gate_dst (N := 2) rfl ?_); refine box_event ?hg (N := 2) ?hd (cs := #[.int .i64 a0_0, .int .i64 a0_1, .int .i64 a0_2, .int .i64 a0_3, .int .i64 a0_4, .slice A0_5 l0_5.length c0_5]) (t := 24) ?hr ?_; (case hd => rfl); (case hg => rfl); (case hr => first | (go_simp; done) | (go_simp; rfl)); intro gb132 hg w14 hbox hb; have n0_ := Aside0.mk (below_step (by repeat (first | (with_reducible first | exact HB.out | apply below_alloc | apply pw_below_drewN | apply below_drew1) | exact HB.out)) hb); have n1_ := Aside0.mk (hbox); have n2_ := Aside0.mk ((by rw [hg]; exact (below_size (by repeat (first | (with_reducible first | exact HB.out | apply below_alloc | apply pw_below_drewN | apply below_drew1) | exact HB.out))) : w.heap.size ≤ gb132)); have n3_ := Aside0.mk ((by rw [hg]; exact (below_size (by repeat (first | (with_reducible first | exact HB.out | apply below_alloc | apply pw_below_drewN | apply below_drew1) | exact HB.out))) : w.heap.size ≤ gb132)); clear HB; have HB := n0_; have BK132 := n1_; have GW132 := n2_; have GE132 := n3_; clear n0_ n1_ n2_ n3_; clear hb hbox hg) | ((with_reducible refine gate_dst (N := 3) rfl ?_); refine box_event ?hg (N := 3) ?hd (cs := #[.int .i64 a1_0, .int .i64 a1_1, .int .i64 a1_2, .int .i64 a1_3, .int .i64 a1_4, .slice A1_5 l1_5.length c1_5]) (t := 24) ?hr ?_; (case hd => rfl); (case hg => rfl); (case hr => first | (go_simp; done) | (go_simp; rfl)); intro gb133 hg w15 hbox hb; have n0_ := Aside0.mk (blk_below (g := gb132) (o := .cells #[.int .i64 a0_0, .int .i64 a0_1, .int .i64 a0_2, .int .i64 a0_3, .int .i64 a0_4, .slice A0_5 l0_5.length c0_5] 24 (0, 0)) (by (with_reducible repeat (first | refine blk_drewN ?_ _ | refine blk_drew ?_ | refine blk_alloc ?_ _)); exact BK132.out) hb); have n1_ := Aside0.mk (below_step (by repeat (first | (with_reducible first | exact HB.out | apply below_alloc | apply pw_below_drewN | apply below_drew1 | refine below_set ?_ GE132.out) | exact HB.out)) hb); have n2_ := Aside0.mk (hbox); have n3_ := Aside0.mk ((by rw [hg]; exact (below_size (by repeat (first | (with_reducible first | exact HB.out | apply below_alloc | apply pw_below_drewN | apply below_drew1 | refine below_set ?_ GE132.out) | exact HB.out))) : w.heap.size ≤ gb133)); have n4_ := Aside0.mk ((by rw [hg]; exact (below_size (by repeat (first | (with_reducible first | exact HB.out | apply below_alloc | apply pw_below_drewN | apply below_drew1 | refine below_set ?_ GE132.out) | exact HB.out))) : w.heap.size ≤ gb133)); have n5_ := Aside0.mk ((by rw [hg]; exact Nat.ne_of_lt (blk_lt (g := gb132) (o := .cells #[.int .i64 a0_0, .int .i64 a0_1, .int .i64 a0_2, .int .i64 a0_3, .int .i64 a0_4, .slice A0_5 l0_5.length c0_5] 24 (0, 0)) (by (with_reducible repeat (first | refine blk_drewN ?_ _ | refine blk_drew ?_ | refine blk_alloc ?_ _)); exact BK132.out)) : gb132 ≠ gb133)); have n6_ := Aside0.mk ((by rw [hg]; exact Nat.ne_of_gt (blk_lt (g := gb132) (o := .cells #[.int .i64 a0_0, .int .i64 a0_1, .int .i64 a0_2, .int .i64 a0_3, .int .i64 a0_4, .slice A0_5 l0_5.length c0_5] 24 (0, 0)) (by (with_reducible repeat (first | refine blk_drewN ?_ _ | refine blk_drew ?_ | refine blk_alloc ?_ _)); exact BK132.out)) : gb133 ≠ gb132)); clear BK132; clear HB; have BK132 := n0_; have HB := n1_; have BK133 := n2_; have GW133 := n3_; have GE133 := n4_; have NB132_133 := n5_; have NB133_132 := n6_; clear n0_ n1_ n2_ n3_ n4_ n5_ n6_; clear hb hbox hg; have hnb16 := NB132_133.out; have hnc16 := NB133_132.out; have hcz17_0 : w15.cell? ⟨gb132, 0, none⟩ = some (.int .i64 a0_0) := (blk_cell BK132.out 0).trans rfl; have hcz17_1 : w15.cell? ⟨gb132, 1, none⟩ = some (.int .i64 a0_1) := (blk_cell BK132.out 1).trans rfl; have hcz17_2 : w15.cell? ⟨gb132, 2, none⟩ = some (.int .i64 a0_2) := (blk_cell BK132.out 2).trans rfl; have hcz17_3 : w15.cell? ⟨gb132, 3, none⟩ = some (.int .i64 a0_3) := (blk_cell BK132.out 3).trans rfl; have hcz17_4 : w15.cell? ⟨gb132, 4, none⟩ = some (.int .i64 a0_4) := (blk_cell BK132.out 4).trans rfl; have hcz17_5 : w15.cell? ⟨gb132, 5, none⟩ = some (.slice A0_5 l0_5.length c0_5) := (blk_cell BK132.out 5).trans rfl; have hfz17_0 := blk_frozen BK132.out 0; have hfz17_1 := blk_frozen BK132.out 1; have hfz17_2 := blk_frozen BK132.out 2; have hfz17_3 := blk_frozen BK132.out 3; have hfz17_4 := blk_frozen BK132.out 4; have hfz17_5 := blk_frozen BK132.out 5; have hcz18_0 : w15.cell? ⟨gb133, 0, none⟩ = some (.int .i64 a1_0) := (blk_cell BK133.out 0).trans rfl; have hcz18_1 : w15.cell? ⟨gb133, 1, none⟩ = some (.int .i64 a1_1) := (blk_cell BK133.out 1).trans rfl; have hcz18_2 : w15.cell? ⟨gb133, 2, none⟩ = some (.int .i64 a1_2) := (blk_cell BK133.out 2).trans rfl; have hcz18_3 : w15.cell? ⟨gb133, 3, none⟩ = some (.int .i64 a1_3) := (blk_cell BK133.out 3).trans rfl; have hcz18_4 : w15.cell? ⟨gb133, 4, none⟩ = some (.int .i64 a1_4) := (blk_cell BK133.out 4).trans rfl; have hcz18_5 : w15.cell? ⟨gb133, 5, none⟩ = some (.slice A1_5 l1_5.length c1_5) := (blk_cell BK133.out 5).trans rfl; have hfz18_0 := blk_frozen BK133.out 0; have hfz18_1 := blk_frozen BK133.out 1; have hfz18_2 := blk_frozen BK133.out 2; have hfz18_3 := blk_frozen BK133.out 3; have hfz18_4 := blk_frozen BK133.out 4; have hfz18_5 := blk_frozen BK133.out 5) | ((with_reducible refine gate_callee (f := 21) rfl ?_); refine goesL_ (some 10) rfl rfl Try.func21 (by kernel_rfl) rfl #[.slice A0_5 l0_5.length c0_5, .slice A1_5 l1_5.length c1_5] rfl (by (try simp only [List.map_toArray, List.map_cons, List.map_nil]); first | done | rfl | (simp only [List.length_drop, List.length_take]; rfl)) ?_; (with_reducible refine (slotmeshref04_Same.calls k _ _ l0_5 _ _ l1_5 true _ ?side1 ?side2 ?side3 ?side4 A3.out).mono ?_); (case side1 => repeat (first | exact (Kd.C_below HR0_5.out HB.out) | (with_reducible refine Kd.C_alloc ?_ _) | (with_reducible refine Kd.C_drewN ?_ _) | (with_reducible refine Kd.C_drew ?_))); (case side2 => exact HC0_5.out); (case side3 => repeat (first | exact (Kd.C_below HR1_5.out HB.out) | (with_reducible refine Kd.C_alloc ?_ _) | (with_reducible refine Kd.C_drewN ?_ _) | (with_reducible refine Kd.C_drew ?_))); (case side4 => exact HC1_5.out); rintro e w' ⟨rfl, ⟨nd, rfl⟩⟩; refine ⟨_, rfl, ?_⟩))
            go_ret
            exact ⟨by first | rfl | (simp [errW_none, errW_some] <;> rfl) | (simp [*, errW_none, errW_some] <;> rfl), by repeat (first | (with_reducible first | exact HB.out | apply below_alloc | apply pw_below_drewN | apply below_drew1 | refine below_set ?_ GE132.out | refine below_set ?_ GE133.out) | exact HB.out)⟩
        · rw [if_neg c7] at H
          have c7b0 : (a0_2 == a1_2) = false := beq_eq_false_iff_ne.mpr c7
          have c7b1 : (a0_2 != a1_2) = true := bne_iff_ne.mpr c7
          obtain rfl := Option.some.inj H
          go_enter Try.func32, Try.ntmps32
          go_wp2_with (first | ((with_reducible refine gate_dst (N := 2) rfl ?_); refine box_event ?hg (N := 2) ?hd (cs := #[.int .i64 a0_0, .int .i64 a0_1, .int .i64 a0_2, .int .i64 a0_3, .int .i64 a0_4, .slice A0_5 l0_5.length c0_5]) (t := 24) ?hr ?_; (case hd => rfl); (case hg => rfl); (case hr => first | (go_simp; done) | (go_simp; rfl)); intro gb132 hg w19 hbox hb; have n0_ := Aside0.mk (below_step (by repeat (first | (with_reducible first | exact HB.out | apply below_alloc | apply pw_below_drewN | apply below_drew1) | exact HB.out)) hb); have n1_ := Aside0.mk (hbox); have n2_ := Aside0.mk ((by rw [hg]; exact (below_size (by repeat (first | (with_reducible first | exact HB.out | apply below_alloc | apply pw_below_drewN | apply below_drew1) | exact HB.out))) : w.heap.size ≤ gb132)); have n3_ := Aside0.mk ((by rw [hg]; exact (below_size (by repeat (first | (with_reducible first | exact HB.out | apply below_alloc | apply pw_below_drewN | apply below_drew1) | exact HB.out))) : w.heap.size ≤ gb132)); clear HB; have HB := n0_; have BK132 := n1_; have GW132 := n2_; have GE132 := n3_; clear n0_ n1_ n2_ n3_; clear hb hbox hg) | ((with_reducible refine gate_dst (N := 3) rfl ?_); refine box_event ?hg (N := 3) ?hd (cs := #[.int .i64 a1_0, .int .i64 a1_1, .int .i64 a1_2, .int .i64 a1_3, .int .i64 a1_4, .slice A1_5 l1_5.length c1_5]) (t := 24) ?hr ?_; (case hd => rfl); (case hg => rfl); (case hr => first | (go_simp; done) | (go_simp; rfl)); intro gb133 hg w20 hbox hb; have n0_ := Aside0.mk (blk_below (g := gb132) (o := .cells #[.int .i64 a0_0, .int .i64 a0_1, .int .i64 a0_2, .int .i64 a0_3, .int .i64 a0_4, .slice A0_5 l0_5.length c0_5] 24 (0, 0)) (by (with_reducible repeat (first | refine blk_drewN ?_ _ | refine blk_drew ?_ | refine blk_alloc ?_ _)); exact BK132.out) hb); have n1_ := Aside0.mk (below_step (by repeat (first | (with_reducible first | exact HB.out | apply below_alloc | apply pw_below_drewN | apply below_drew1 | refine below_set ?_ GE132.out) | exact HB.out)) hb); have n2_ := Aside0.mk (hbox); have n3_ := Aside0.mk ((by rw [hg]; exact (below_size (by repeat (first | (with_reducible first | exact HB.out | apply below_alloc | apply pw_below_drewN | apply below_drew1 | refine below_set ?_ GE132.out) | exact HB.out))) : w.heap.size ≤ gb133)); have n4_ := Aside0.mk ((by rw [hg]; exact (below_size (by repeat (first | (with_reducible first | exact HB.out | apply below_alloc | apply pw_below_drewN | apply below_drew1 | refine below_set ?_ GE132.out) | exact HB.out))) : w.heap.size ≤ gb133)); have n5_ := Aside0.mk ((by rw [hg]; exact Nat.ne_of_lt (blk_lt (g := gb132) (o := .cells #[.int .i64 a0_0, .int .i64 a0_1, .int .i64 a0_2, .int .i64 a0_3, .int .i64 a0_4, .slice A0_5 l0_5.length c0_5] 24 (0, 0)) (by (with_reducible repeat (first | refine blk_drewN ?_ _ | refine blk_drew ?_ | refine blk_alloc ?_ _)); exact BK132.out)) : gb132 ≠ gb133)); have n6_ := Aside0.mk ((by rw [hg]; exact Nat.ne_of_gt (blk_lt (g := gb132) (o := .cells #[.int .i64 a0_0, .int .i64 a0_1, .int .i64 a0_2, .int .i64 a0_3, .int .i64 a0_4, .slice A0_5 l0_5.length c0_5] 24 (0, 0)) (by (with_reducible repeat (first | refine blk_drewN ?_ _ | refine blk_drew ?_ | refine blk_alloc ?_ _)); exact BK132.out)) : gb133 ≠ gb132)); clear BK132; clear HB; have BK132 := n0_; have HB := n1_; have BK133 := n2_; have GW133 := n3_; have GE133 := n4_; have NB132_133 := n5_; have NB133_132 := n6_; clear n0_ n1_ n2_ n3_ n4_ n5_ n6_; clear hb hbox hg; have hnb21 := NB132_133.out; have hnc21 := NB133_132.out; have hcz22_0 : w20.cell? ⟨gb132, 0, none⟩ = some (.int .i64 a0_0) := (blk_cell BK132.out 0).trans rfl; have hcz22_1 : w20.cell? ⟨gb132, 1, none⟩ = some (.int .i64 a0_1) := (blk_cell BK132.out 1).trans rfl; have hcz22_2 : w20.cell? ⟨gb132, 2, none⟩ = some (.int .i64 a0_2) := (blk_cell BK132.out 2).trans rfl; have hcz22_3 : w20.cell? ⟨gb132, 3, none⟩ = some (.int .i64 a0_3) := (blk_cell BK132.out 3).trans rfl; have hcz22_4 : w20.cell? ⟨gb132, 4, none⟩ = some (.int .i64 a0_4) := (blk_cell BK132.out 4).trans rfl; have hcz22_5 : w20.cell? ⟨gb132, 5, none⟩ = some (.slice A0_5 l0_5.length c0_5) := (blk_cell BK132.out 5).trans rfl; have hfz22_0 := blk_frozen BK132.out 0; have hfz22_1 := blk_frozen BK132.out 1; have hfz22_2 := blk_frozen BK132.out 2; have hfz22_3 := blk_frozen BK132.out 3; have hfz22_4 := blk_frozen BK132.out 4; have hfz22_5 := blk_frozen BK132.out 5; have hcz23_0 : w20.cell? ⟨gb133, 0, none⟩ = some (.int .i64 a1_0) := (blk_cell BK133.out 0).trans rfl; have hcz23_1 : w20.cell? ⟨gb133, 1, none⟩ = some (.int .i64 a1_1) := (blk_cell BK133.out 1).trans rfl; have hcz23_2 : w20.cell? ⟨gb133, 2, none⟩ = some (.int .i64 a1_2) := (blk_cell BK133.out 2).trans rfl; have hcz23_3 : w20.cell? ⟨gb133, 3, none⟩ = some (.int .i64 a1_3) := (blk_cell BK133.out 3).trans rfl; have hcz23_4 : w20.cell? ⟨gb133, 4, none⟩ = some (.int .i64 a1_4) := (blk_cell BK133.out 4).trans rfl; have hcz23_5 : w20.cell? ⟨gb133, 5, none⟩ = some (.slice A1_5 l1_5.length c1_5) := (blk_cell BK133.out 5).trans rfl; have hfz23_0 := blk_frozen BK133.out 0; have hfz23_1 := blk_frozen BK133.out 1; have hfz23_2 := blk_frozen BK133.out 2; have hfz23_3 := blk_frozen BK133.out 3; have hfz23_4 := blk_frozen BK133.out 4; have hfz23_5 := blk_frozen BK133.out 5) | ((with_reducible refine gate_callee (f := 21) rfl ?_); refine goesL_ (some 10) rfl rfl Try.func21 (by kernel_rfl) rfl #[.slice A0_5 l0_5.length c0_5, .slice A1_5 l1_5.length c1_5] rfl (by (try simp only [List.map_toArray, List.map_cons, List.map_nil]); first | done | rfl | (simp only [List.length_drop, List.length_take]; rfl)) ?_; (with_reducible refine (slotmeshref04_Same.calls k _ _ l0_5 _ _ l1_5 true _ ?side1 ?side2 ?side3 ?side4 A3.out).mono ?_); (case side1 => repeat (first | exact (Kd.C_below HR0_5.out HB.out) | (with_reducible refine Kd.C_alloc ?_ _) | (with_reducible refine Kd.C_drewN ?_ _) | (with_reducible refine Kd.C_drew ?_))); (case side2 => exact HC0_5.out); (case side3 => repeat (first | exact (Kd.C_below HR1_5.out HB.out) | (with_reducible refine Kd.C_alloc ?_ _) | (with_reducible refine Kd.C_drewN ?_ _) | (with_reducible refine Kd.C_drew ?_))); (case side4 => exact HC1_5.out); rintro e w' ⟨rfl, ⟨nd, rfl⟩⟩; refine ⟨_, rfl, ?_⟩))
          go_ret
          exact ⟨by first | rfl | (simp [errW_none, errW_some] <;> rfl) | (simp [*, errW_none, errW_some] <;> rfl), by repeat (first | (with_reducible first | exact HB.out | apply below_alloc | apply pw_below_drewN | apply below_drew1 | refine below_set ?_ GE132.out | refine below_set ?_ GE133.out) | exact HB.out)⟩
      · rw [if_neg c6] at H
        have c6b0 : (a0_1 == a1_1) = false := beq_eq_false_iff_ne.mpr c6
        have c6b1 : (a0_1 != a1_1) = true := bne_iff_ne.mpr c6
        obtain rfl := Option.some.inj H
        go_enter Try.func32, Try.ntmps32
        go_wp2_with (first | ((with_reducible refine gate_dst (N := 2) rfl ?_); refine box_event ?hg (N := 2) ?hd (cs := #[.int .i64 a0_0, .int .i64 a0_1, .int .i64 a0_2, .int .i64 a0_3, .int .i64 a0_4, .slice A0_5 l0_5.length c0_5]) (t := 24) ?hr ?_; (case hd => rfl); (case hg => rfl); (case hr => first | (go_simp; done) | (go_simp; rfl)); intro gb132 hg w24 hbox hb; have n0_ := Aside0.mk (below_step (by repeat (first | (with_reducible first | exact HB.out | apply below_alloc | apply pw_below_drewN | apply below_drew1) | exact HB.out)) hb); have n1_ := Aside0.mk (hbox); have n2_ := Aside0.mk ((by rw [hg]; exact (below_size (by repeat (first | (with_reducible first | exact HB.out | apply below_alloc | apply pw_below_drewN | apply below_drew1) | exact HB.out))) : w.heap.size ≤ gb132)); have n3_ := Aside0.mk ((by rw [hg]; exact (below_size (by repeat (first | (with_reducible first | exact HB.out | apply below_alloc | apply pw_below_drewN | apply below_drew1) | exact HB.out))) : w.heap.size ≤ gb132)); clear HB; have HB := n0_; have BK132 := n1_; have GW132 := n2_; have GE132 := n3_; clear n0_ n1_ n2_ n3_; clear hb hbox hg) | ((with_reducible refine gate_dst (N := 3) rfl ?_); refine box_event ?hg (N := 3) ?hd (cs := #[.int .i64 a1_0, .int .i64 a1_1, .int .i64 a1_2, .int .i64 a1_3, .int .i64 a1_4, .slice A1_5 l1_5.length c1_5]) (t := 24) ?hr ?_; (case hd => rfl); (case hg => rfl); (case hr => first | (go_simp; done) | (go_simp; rfl)); intro gb133 hg w25 hbox hb; have n0_ := Aside0.mk (blk_below (g := gb132) (o := .cells #[.int .i64 a0_0, .int .i64 a0_1, .int .i64 a0_2, .int .i64 a0_3, .int .i64 a0_4, .slice A0_5 l0_5.length c0_5] 24 (0, 0)) (by (with_reducible repeat (first | refine blk_drewN ?_ _ | refine blk_drew ?_ | refine blk_alloc ?_ _)); exact BK132.out) hb); have n1_ := Aside0.mk (below_step (by repeat (first | (with_reducible first | exact HB.out | apply below_alloc | apply pw_below_drewN | apply below_drew1 | refine below_set ?_ GE132.out) | exact HB.out)) hb); have n2_ := Aside0.mk (hbox); have n3_ := Aside0.mk ((by rw [hg]; exact (below_size (by repeat (first | (with_reducible first | exact HB.out | apply below_alloc | apply pw_below_drewN | apply below_drew1 | refine below_set ?_ GE132.out) | exact HB.out))) : w.heap.size ≤ gb133)); have n4_ := Aside0.mk ((by rw [hg]; exact (below_size (by repeat (first | (with_reducible first | exact HB.out | apply below_alloc | apply pw_below_drewN | apply below_drew1 | refine below_set ?_ GE132.out) | exact HB.out))) : w.heap.size ≤ gb133)); have n5_ := Aside0.mk ((by rw [hg]; exact Nat.ne_of_lt (blk_lt (g := gb132) (o := .cells #[.int .i64 a0_0, .int .i64 a0_1, .int .i64 a0_2, .int .i64 a0_3, .int .i64 a0_4, .slice A0_5 l0_5.length c0_5] 24 (0, 0)) (by (with_reducible repeat (first | refine blk_drewN ?_ _ | refine blk_drew ?_ | refine blk_alloc ?_ _)); exact BK132.out)) : gb132 ≠ gb133)); have n6_ := Aside0.mk ((by rw [hg]; exact Nat.ne_of_gt (blk_lt (g := gb132) (o := .cells #[.int .i64 a0_0, .int .i64 a0_1, .int .i64 a0_2, .int .i64 a0_3, .int .i64 a0_4, .slice A0_5 l0_5.length c0_5] 24 (0, 0)) (by (with_reducible repeat (first | refine blk_drewN ?_ _ | refine blk_drew ?_ | refine blk_alloc ?_ _)); exact BK132.out)) : gb133 ≠ gb132)); clear BK132; clear HB; have BK132 := n0_; have HB := n1_; have BK133 := n2_; have GW133 := n3_; have GE133 := n4_; have NB132_133 := n5_; have NB133_132 := n6_; clear n0_ n1_ n2_ n3_ n4_ n5_ n6_; clear hb hbox hg; have hnb26 := NB132_133.out; have hnc26 := NB133_132.out; have hcz27_0 : w25.cell? ⟨gb132, 0, none⟩ = some (.int .i64 a0_0) := (blk_cell BK132.out 0).trans rfl; have hcz27_1 : w25.cell? ⟨gb132, 1, none⟩ = some (.int .i64 a0_1) := (blk_cell BK132.out 1).trans rfl; have hcz27_2 : w25.cell? ⟨gb132, 2, none⟩ = some (.int .i64 a0_2) := (blk_cell BK132.out 2).trans rfl; have hcz27_3 : w25.cell? ⟨gb132, 3, none⟩ = some (.int .i64 a0_3) := (blk_cell BK132.out 3).trans rfl; have hcz27_4 : w25.cell? ⟨gb132, 4, none⟩ = some (.int .i64 a0_4) := (blk_cell BK132.out 4).trans rfl; have hcz27_5 : w25.cell? ⟨gb132, 5, none⟩ = some (.slice A0_5 l0_5.length c0_5) := (blk_cell BK132.out 5).trans rfl; have hfz27_0 := blk_frozen BK132.out 0; have hfz27_1 := blk_frozen BK132.out 1; have hfz27_2 := blk_frozen BK132.out 2; have hfz27_3 := blk_frozen BK132.out 3; have hfz27_4 := blk_frozen BK132.out 4; have hfz27_5 := blk_frozen BK132.out 5; have hcz28_0 : w25.cell? ⟨gb133, 0, none⟩ = some (.int .i64 a1_0) := (blk_cell BK133.out 0).trans rfl; have hcz28_1 : w25.cell? ⟨gb133, 1, none⟩ = some (.int .i64 a1_1) := (blk_cell BK133.out 1).trans rfl; have hcz28_2 : w25.cell? ⟨gb133, 2, none⟩ = some (.int .i64 a1_2) := (blk_cell BK133.out 2).trans rfl; have hcz28_3 : w25.cell? ⟨gb133, 3, none⟩ = some (.int .i64 a1_3) := (blk_cell BK133.out 3).trans rfl; have hcz28_4 : w25.cell? ⟨gb133, 4, none⟩ = some (.int .i64 a1_4) := (blk_cell BK133.out 4).trans rfl; have hcz28_5 : w25.cell? ⟨gb133, 5, none⟩ = some (.slice A1_5 l1_5.length c1_5) := (blk_cell BK133.out 5).trans rfl; have hfz28_0 := blk_frozen BK133.out 0; have hfz28_1 := blk_frozen BK133.out 1; have hfz28_2 := blk_frozen BK133.out 2; have hfz28_3 := blk_frozen BK133.out 3; have hfz28_4 := blk_frozen BK133.out 4; have hfz28_5 := blk_frozen BK133.out 5) | ((with_reducible refine gate_callee (f := 21) rfl ?_); refine goesL_ (some 10) rfl rfl Try.func21 (by kernel_rfl) rfl #[.slice A0_5 l0_5.length c0_5, .slice A1_5 l1_5.length c1_5] rfl (by (try simp only [List.map_toArray, List.map_cons, List.map_nil]); first | done | rfl | (simp only [List.length_drop, List.length_take]; rfl)) ?_; (with_reducible refine (slotmeshref04_Same.calls k _ _ l0_5 _ _ l1_5 true _ ?side1 ?side2 ?side3 ?side4 A3.out).mono ?_); (case side1 => repeat (first | exact (Kd.C_below HR0_5.out HB.out) | (with_reducible refine Kd.C_alloc ?_ _) | (with_reducible refine Kd.C_drewN ?_ _) | (with_reducible refine Kd.C_drew ?_))); (case side2 => exact HC0_5.out); (case side3 => repeat (first | exact (Kd.C_below HR1_5.out HB.out) | (with_reducible refine Kd.C_alloc ?_ _) | (with_reducible refine Kd.C_drewN ?_ _) | (with_reducible refine Kd.C_drew ?_))); (case side4 => exact HC1_5.out); rintro e w' ⟨rfl, ⟨nd, rfl⟩⟩; refine ⟨_, rfl, ?_⟩))
        go_ret
        exact ⟨by first | rfl | (simp [errW_none, errW_some] <;> rfl) | (simp [*, errW_none, errW_some] <;> rfl), by repeat (first | (with_reducible first | exact HB.out | apply below_alloc | apply pw_below_drewN | apply below_drew1 | refine below_set ?_ GE132.out | refine below_set ?_ GE133.out) | exact HB.out)⟩
    · rw [if_neg c5] at H
      have c5b0 : (a0_0 == a1_0) = false := beq_eq_false_iff_ne.mpr c5
      have c5b1 : (a0_0 != a1_0) = true := bne_iff_ne.mpr c5
      obtain rfl := Option.some.inj H
      go_enter Try.func32, Try.ntmps32
      go_wp2_with (first | ((with_reducible refine gate_dst (N := 2) rfl ?_); refine box_event ?hg (N := 2) ?hd (cs := #[.int .i64 a0_0, .int .i64 a0_1, .int .i64 a0_2, .int .i64 a0_3, .int .i64 a0_4, .slice A0_5 l0_5.length c0_5]) (t := 24) ?hr ?_; (case hd => rfl); (case hg => rfl); (case hr => first | (go_simp; done) | (go_simp; rfl)); intro gb132 hg w29 hbox hb; have n0_ := Aside0.mk (below_step (by repeat (first | (with_reducible first | exact HB.out | apply below_alloc | apply pw_below_drewN | apply below_drew1) | exact HB.out)) hb); have n1_ := Aside0.mk (hbox); have n2_ := Aside0.mk ((by rw [hg]; exact (below_size (by repeat (first | (with_reducible first | exact HB.out | apply below_alloc | apply pw_below_drewN | apply below_drew1) | exact HB.out))) : w.heap.size ≤ gb132)); have n3_ := Aside0.mk ((by rw [hg]; exact (below_size (by repeat (first | (with_reducible first | exact HB.out | apply below_alloc | apply pw_below_drewN | apply below_drew1) | exact HB.out))) : w.heap.size ≤ gb132)); clear HB; have HB := n0_; have BK132 := n1_; have GW132 := n2_; have GE132 := n3_; clear n0_ n1_ n2_ n3_; clear hb hbox hg) | ((with_reducible refine gate_dst (N := 3) rfl ?_); refine box_event ?hg (N := 3) ?hd (cs := #[.int .i64 a1_0, .int .i64 a1_1, .int .i64 a1_2, .int .i64 a1_3, .int .i64 a1_4, .slice A1_5 l1_5.length c1_5]) (t := 24) ?hr ?_; (case hd => rfl); (case hg => rfl); (case hr => first | (go_simp; done) | (go_simp; rfl)); intro gb133 hg w30 hbox hb; have n0_ := Aside0.mk (blk_below (g := gb132) (o := .cells #[.int .i64 a0_0, .int .i64 a0_1, .int .i64 a0_2, .int .i64 a0_3, .int .i64 a0_4, .slice A0_5 l0_5.length c0_5] 24 (0, 0)) (by (with_reducible repeat (first | refine blk_drewN ?_ _ | refine blk_drew ?_ | refine blk_alloc ?_ _)); exact BK132.out) hb); have n1_ := Aside0.mk (below_step (by repeat (first | (with_reducible first | exact HB.out | apply below_alloc | apply pw_below_drewN | apply below_drew1 | refine below_set ?_ GE132.out) | exact HB.out)) hb); have n2_ := Aside0.mk (hbox); have n3_ := Aside0.mk ((by rw [hg]; exact (below_size (by repeat (first | (with_reducible first | exact HB.out | apply below_alloc | apply pw_below_drewN | apply below_drew1 | refine below_set ?_ GE132.out) | exact HB.out))) : w.heap.size ≤ gb133)); have n4_ := Aside0.mk ((by rw [hg]; exact (below_size (by repeat (first | (with_reducible first | exact HB.out | apply below_alloc | apply pw_below_drewN | apply below_drew1 | refine below_set ?_ GE132.out) | exact HB.out))) : w.heap.size ≤ gb133)); have n5_ := Aside0.mk ((by rw [hg]; exact Nat.ne_of_lt (blk_lt (g := gb132) (o := .cells #[.int .i64 a0_0, .int .i64 a0_1, .int .i64 a0_2, .int .i64 a0_3, .int .i64 a0_4, .slice A0_5 l0_5.length c0_5] 24 (0, 0)) (by (with_reducible repeat (first | refine blk_drewN ?_ _ | refine blk_drew ?_ | refine blk_alloc ?_ _)); exact BK132.out)) : gb132 ≠ gb133)); have n6_ := Aside0.mk ((by rw [hg]; exact Nat.ne_of_gt (blk_lt (g := gb132) (o := .cells #[.int .i64 a0_0, .int .i64 a0_1, .int .i64 a0_2, .int .i64 a0_3, .int .i64 a0_4, .slice A0_5 l0_5.length c0_5] 24 (0, 0)) (by (with_reducible repeat (first | refine blk_drewN ?_ _ | refine blk_drew ?_ | refine blk_alloc ?_ _)); exact BK132.out)) : gb133 ≠ gb132)); clear BK132; clear HB; have BK132 := n0_; have HB := n1_; have BK133 := n2_; have GW133 := n3_; have GE133 := n4_; have NB132_133 := n5_; have NB133_132 := n6_; clear n0_ n1_ n2_ n3_ n4_ n5_ n6_; clear hb hbox hg; have hnb31 := NB132_133.out; have hnc31 := NB133_132.out; have hcz32_0 : w30.cell? ⟨gb132, 0, none⟩ = some (.int .i64 a0_0) := (blk_cell BK132.out 0).trans rfl; have hcz32_1 : w30.cell? ⟨gb132, 1, none⟩ = some (.int .i64 a0_1) := (blk_cell BK132.out 1).trans rfl; have hcz32_2 : w30.cell? ⟨gb132, 2, none⟩ = some (.int .i64 a0_2) := (blk_cell BK132.out 2).trans rfl; have hcz32_3 : w30.cell? ⟨gb132, 3, none⟩ = some (.int .i64 a0_3) := (blk_cell BK132.out 3).trans rfl; have hcz32_4 : w30.cell? ⟨gb132, 4, none⟩ = some (.int .i64 a0_4) := (blk_cell BK132.out 4).trans rfl; have hcz32_5 : w30.cell? ⟨gb132, 5, none⟩ = some (.slice A0_5 l0_5.length c0_5) := (blk_cell BK132.out 5).trans rfl; have hfz32_0 := blk_frozen BK132.out 0; have hfz32_1 := blk_frozen BK132.out 1; have hfz32_2 := blk_frozen BK132.out 2; have hfz32_3 := blk_frozen BK132.out 3; have hfz32_4 := blk_frozen BK132.out 4; have hfz32_5 := blk_frozen BK132.out 5; have hcz33_0 : w30.cell? ⟨gb133, 0, none⟩ = some (.int .i64 a1_0) := (blk_cell BK133.out 0).trans rfl; have hcz33_1 : w30.cell? ⟨gb133, 1, none⟩ = some (.int .i64 a1_1) := (blk_cell BK133.out 1).trans rfl; have hcz33_2 : w30.cell? ⟨gb133, 2, none⟩ = some (.int .i64 a1_2) := (blk_cell BK133.out 2).trans rfl; have hcz33_3 : w30.cell? ⟨gb133, 3, none⟩ = some (.int .i64 a1_3) := (blk_cell BK133.out 3).trans rfl; have hcz33_4 : w30.cell? ⟨gb133, 4, none⟩ = some (.int .i64 a1_4) := (blk_cell BK133.out 4).trans rfl; have hcz33_5 : w30.cell? ⟨gb133, 5, none⟩ = some (.slice A1_5 l1_5.length c1_5) := (blk_cell BK133.out 5).trans rfl; have hfz33_0 := blk_frozen BK133.out 0; have hfz33_1 := blk_frozen BK133.out 1; have hfz33_2 := blk_frozen BK133.out 2; have hfz33_3 := blk_frozen BK133.out 3; have hfz33_4 := blk_frozen BK133.out 4; have hfz33_5 := blk_frozen BK133.out 5) | ((with_reducible refine gate_callee (f := 21) rfl ?_); refine goesL_ (some 10) rfl rfl Try.func21 (by kernel_rfl) rfl #[.slice A0_5 l0_5.length c0_5, .slice A1_5 l1_5.length c1_5] rfl (by (try simp only [List.map_toArray, List.map_cons, List.map_nil]); first | done | rfl | (simp only [List.length_drop, List.length_take]; rfl)) ?_; (with_reducible refine (slotmeshref04_Same.calls k _ _ l0_5 _ _ l1_5 true _ ?side1 ?side2 ?side3 ?side4 A3.out).mono ?_); (case side1 => repeat (first | exact (Kd.C_below HR0_5.out HB.out) | (with_reducible refine Kd.C_alloc ?_ _) | (with_reducible refine Kd.C_drewN ?_ _) | (with_reducible refine Kd.C_drew ?_))); (case side2 => exact HC0_5.out); (case side3 => repeat (first | exact (Kd.C_below HR1_5.out HB.out) | (with_reducible refine Kd.C_alloc ?_ _) | (with_reducible refine Kd.C_drewN ?_ _) | (with_reducible refine Kd.C_drew ?_))); (case side4 => exact HC1_5.out); rintro e w' ⟨rfl, ⟨nd, rfl⟩⟩; refine ⟨_, rfl, ?_⟩))
      go_ret
      exact ⟨by first | rfl | (simp [errW_none, errW_some] <;> rfl) | (simp [*, errW_none, errW_some] <;> rfl), by repeat (first | (with_reducible first | exact HB.out | apply below_alloc | apply pw_below_drewN | apply below_drew1 | refine below_set ?_ GE132.out | refine below_set ?_ GE133.out) | exact HB.out)⟩
  · replace c4 := Bool.eq_false_iff.mpr c4
    subst c4
    have H1 : (some false) = some r := by rw [if_neg (show ¬ (false = true) by decide)] at H; exact H
    clear H
    have H := H1
    clear H1
    obtain rfl := Option.some.inj H
    go_enter Try.func32, Try.ntmps32
    go_wp2_with (first | ((with_reducible refine gate_dst (N := 2) rfl ?_); refine box_event ?hg (N := 2) ?hd (cs := #[.int .i64 a0_0, .int .i64 a0_1, .int .i64 a0_2, .int .i64 a0_3, .int .i64 a0_4, .slice A0_5 l0_5.length c0_5]) (t := 24) ?hr ?_; (case hd => rfl); (case hg => rfl); (case hr => first | (go_simp; done) | (go_simp; rfl)); intro gb132 hg w34 hbox hb; have n0_ := Aside0.mk (below_step (by repeat (first | (with_reducible first | exact HB.out | apply below_alloc | apply pw_below_drewN | apply below_drew1) | exact HB.out)) hb); have n1_ := Aside0.mk (hbox); have n2_ := Aside0.mk ((by rw [hg]; exact (below_size (by repeat (first | (with_reducible first | exact HB.out | apply below_alloc | apply pw_below_drewN | apply below_drew1) | exact HB.out))) : w.heap.size ≤ gb132)); have n3_ := Aside0.mk ((by rw [hg]; exact (below_size (by repeat (first | (with_reducible first | exact HB.out | apply below_alloc | apply pw_below_drewN | apply below_drew1) | exact HB.out))) : w.heap.size ≤ gb132)); clear HB; have HB := n0_; have BK132 := n1_; have GW132 := n2_; have GE132 := n3_; clear n0_ n1_ n2_ n3_; clear hb hbox hg) | ((with_reducible refine gate_dst (N := 3) rfl ?_); refine box_event ?hg (N := 3) ?hd (cs := #[.int .i64 a1_0, .int .i64 a1_1, .int .i64 a1_2, .int .i64 a1_3, .int .i64 a1_4, .slice A1_5 l1_5.length c1_5]) (t := 24) ?hr ?_; (case hd => rfl); (case hg => rfl); (case hr => first | (go_simp; done) | (go_simp; rfl)); intro gb133 hg w35 hbox hb; have n0_ := Aside0.mk (blk_below (g := gb132) (o := .cells #[.int .i64 a0_0, .int .i64 a0_1, .int .i64 a0_2, .int .i64 a0_3, .int .i64 a0_4, .slice A0_5 l0_5.length c0_5] 24 (0, 0)) (by (with_reducible repeat (first | refine blk_drewN ?_ _ | refine blk_drew ?_ | refine blk_alloc ?_ _)); exact BK132.out) hb); have n1_ := Aside0.mk (below_step (by repeat (first | (with_reducible first | exact HB.out | apply below_alloc | apply pw_below_drewN | apply below_drew1 | refine below_set ?_ GE132.out) | exact HB.out)) hb); have n2_ := Aside0.mk (hbox); have n3_ := Aside0.mk ((by rw [hg]; exact (below_size (by repeat (first | (with_reducible first | exact HB.out | apply below_alloc | apply pw_below_drewN | apply below_drew1 | refine below_set ?_ GE132.out) | exact HB.out))) : w.heap.size ≤ gb133)); have n4_ := Aside0.mk ((by rw [hg]; exact (below_size (by repeat (first | (with_reducible first | exact HB.out | apply below_alloc | apply pw_below_drewN | apply below_drew1 | refine below_set ?_ GE132.out) | exact HB.out))) : w.heap.size ≤ gb133)); have n5_ := Aside0.mk ((by rw [hg]; exact Nat.ne_of_lt (blk_lt (g := gb132) (o := .cells #[.int .i64 a0_0, .int .i64 a0_1, .int .i64 a0_2, .int .i64 a0_3, .int .i64 a0_4, .slice A0_5 l0_5.length c0_5] 24 (0, 0)) (by (with_reducible repeat (first | refine blk_drewN ?_ _ | refine blk_drew ?_ | refine blk_alloc ?_ _)); exact BK132.out)) : gb132 ≠ gb133)); have n6_ := Aside0.mk ((by rw [hg]; exact Nat.ne_of_gt (blk_lt (g := gb132) (o := .cells #[.int .i64 a0_0, .int .i64 a0_1, .int .i64 a0_2, .int .i64 a0_3, .int .i64 a0_4, .slice A0_5 l0_5.length c0_5] 24 (0, 0)) (by (with_reducible repeat (first | refine blk_drewN ?_ _ | refine blk_drew ?_ | refine blk_alloc ?_ _)); exact BK132.out)) : gb133 ≠ gb132)); clear BK132; clear HB; have BK132 := n0_; have HB := n1_; have BK133 := n2_; have GW133 := n3_; have GE133 := n4_; have NB132_133 := n5_; have NB133_132 := n6_; clear n0_ n1_ n2_ n3_ n4_ n5_ n6_; clear hb hbox hg; have hnb36 := NB132_133.out; have hnc36 := NB133_132.out; have hcz37_0 : w35.cell? ⟨gb132, 0, none⟩ = some (.int .i64 a0_0) := (blk_cell BK132.out 0).trans rfl; have hcz37_1 : w35.cell? ⟨gb132, 1, none⟩ = some (.int .i64 a0_1) := (blk_cell BK132.out 1).trans rfl; have hcz37_2 : w35.cell? ⟨gb132, 2, none⟩ = some (.int .i64 a0_2) := (blk_cell BK132.out 2).trans rfl; have hcz37_3 : w35.cell? ⟨gb132, 3, none⟩ = some (.int .i64 a0_3) := (blk_cell BK132.out 3).trans rfl; have hcz37_4 : w35.cell? ⟨gb132, 4, none⟩ = some (.int .i64 a0_4) := (blk_cell BK132.out 4).trans rfl; have hcz37_5 : w35.cell? ⟨gb132, 5, none⟩ = some (.slice A0_5 l0_5.length c0_5) := (blk_cell BK132.out 5).trans rfl; have hfz37_0 := blk_frozen BK132.out 0; have hfz37_1 := blk_frozen BK132.out 1; have hfz37_2 := blk_frozen BK132.out 2; have hfz37_3 := blk_frozen BK132.out 3; have hfz37_4 := blk_frozen BK132.out 4; have hfz37_5 := blk_frozen BK132.out 5; have hcz38_0 : w35.cell? ⟨gb133, 0, none⟩ = some (.int .i64 a1_0) := (blk_cell BK133.out 0).trans rfl; have hcz38_1 : w35.cell? ⟨gb133, 1, none⟩ = some (.int .i64 a1_1) := (blk_cell BK133.out 1).trans rfl; have hcz38_2 : w35.cell? ⟨gb133, 2, none⟩ = some (.int .i64 a1_2) := (blk_cell BK133.out 2).trans rfl; have hcz38_3 : w35.cell? ⟨gb133, 3, none⟩ = some (.int .i64 a1_3) := (blk_cell BK133.out 3).trans rfl; have hcz38_4 : w35.cell? ⟨gb133, 4, none⟩ = some (.int .i64 a1_4) := (blk_cell BK133.out 4).trans rfl; have hcz38_5 : w35.cell? ⟨gb133, 5, none⟩ = some (.slice A1_5 l1_5.length c1_5) := (blk_cell BK133.out 5).trans rfl; have hfz38_0 := blk_frozen BK133.out 0; have hfz38_1 := blk_frozen BK133.out 1; have hfz38_2 := blk_frozen BK133.out 2; have hfz38_3 := blk_frozen BK133.out 3; have hfz38_4 := blk_frozen BK133.out 4; have hfz38_5 := blk_frozen BK133.out 5) | ((with_reducible refine gate_callee (f := 21) rfl ?_); refine goesL_ (some 10) rfl rfl Try.func21 (by kernel_rfl) rfl #[.slice A0_5 l0_5.length c0_5, .slice A1_5 l1_5.length c1_5] rfl (by (try simp only [List.map_toArray, List.map_cons, List.map_nil]); first | done | rfl | (simp only [List.length_drop, List.length_take]; rfl)) ?_; (with_reducible refine (slotmeshref04_Same.calls k _ _ l0_5 _ _ l1_5 false _ ?side1 ?side2 ?side3 ?side4 A3.out).mono ?_); (case side1 => repeat (first | exact (Kd.C_below HR0_5.out HB.out) | (with_reducible refine Kd.C_alloc ?_ _) | (with_reducible refine Kd.C_drewN ?_ _) | (with_reducible refine Kd.C_drew ?_))); (case side2 => exact HC0_5.out); (case side3 => repeat (first | exact (Kd.C_below HR1_5.out HB.out) | (with_reducible refine Kd.C_alloc ?_ _) | (with_reducible refine Kd.C_drewN ?_ _) | (with_reducible refine Kd.C_drew ?_))); (case side4 => exact HC1_5.out); rintro e w' ⟨rfl, ⟨nd, rfl⟩⟩; refine ⟨_, rfl, ?_⟩))
    go_ret
    exact ⟨by first | rfl | (simp [errW_none, errW_some] <;> rfl) | (simp [*, errW_none, errW_some] <;> rfl), by repeat (first | (with_reducible first | exact HB.out | apply below_alloc | apply pw_below_drewN | apply below_drew1 | refine below_set ?_ GE132.out | refine below_set ?_ GE133.out) | exact HB.out)⟩

/-! ### wire_PutNumber: function 19 -/
def wire_PutNumber.f (k : Nat) (l0 : List Int) (a1 : Int) : Option (List Int × Int) := (wire_isNumber.f a1).bind fun t135 => (if t135 = true then ((slices_Clone_byte_byte.f l0).bind fun t136 => ((wire_zigzag.f a1).bind fun t139 => ((wire_put.f k t136 t139).bind fun t140 => (some (t140, 0))))) else (some (([] : List Int), 3)))
theorem wire_PutNumber.mono : ∀ a0 a1 k, LeO (wire_PutNumber.f k a0 a1) (wire_PutNumber.f (k + 1) a0 a1) := by
  intro a0 a1 k
  unfold wire_PutNumber.f
  repeat' first
      | (with_reducible exact wire_put.mono _ _ _)
      | (with_reducible exact LeO.refl _)
      | (with_reducible exact LeO.none _)
      | (with_reducible refine LeO.ite ?_ ?_)
      | (with_reducible refine LeO.bind ?_ (fun _ => ?_))
      | exact wire_put.mono _ _ _
      | exact LeO.none _
      | refine LeO.ite ?_ ?_
      | refine LeO.bind ?_ (fun _ => ?_)
set_option maxHeartbeats 8000000 in
set_option maxRecDepth 100000 in
theorem wire_PutNumber.calls (k : Nat) (A0 : Option Addr) (c0 : Nat) (l0 : List Int) (a1 : Int) (r1 : List Int) (r2 : Int) (w : World) (hr0 : Kd.C (Kd.int .u8) w A0 l0.length l0) (hc0 : l0.length ≤ c0) (h : wire_PutNumber.f k l0 a1 = some (r1, r2)) :
    Calls Try.prog 19 #[.slice A0 l0.length c0, .int .i64 a1] w fun e w' => ∃ v0_ : Value, e = .returned (.tuple #[v0_, .int .i64 r2]) ∧ Kd.R (Kd.int .u8) 5 w' w.heap.size (fun _ => True) v0_ r1 ∧ Below w.heap.size w w' := by
  have HR0 := Aside0.mk hr0
  have HC0 := Aside0.mk hc0
  clear hr0 hc0
  have HB := Aside0.mk (Below.refl w.heap.size w)
  have H : ((wire_isNumber.f a1).bind fun t135 => (if t135 = true then ((slices_Clone_byte_byte.f l0).bind fun t136 => ((wire_zigzag.f a1).bind fun t139 => ((wire_put.f k t136 t139).bind fun t140 => (some (t140, 0))))) else (some (([] : List Int), 3)))) = some (r1, r2) := h
  clear h
  replace H := Option.bind_eq_some_iff.mp H
  obtain ⟨t135, A30, H⟩ := H
  replace H : (if t135 = true then ((slices_Clone_byte_byte.f l0).bind fun t136 => ((wire_zigzag.f a1).bind fun t139 => ((wire_put.f k t136 t139).bind fun t140 => (some (t140, 0))))) else (some (([] : List Int), 3))) = some (r1, r2) := H
  have A3 := Aside0.mk A30
  clear A30
  by_cases c4 : t135 = true
  · subst c4
    have H1 : ((slices_Clone_byte_byte.f l0).bind fun t136 => ((wire_zigzag.f a1).bind fun t139 => ((wire_put.f k t136 t139).bind fun t140 => (some (t140, 0))))) = some (r1, r2) := by rw [if_pos rfl] at H; exact H
    clear H
    have H := H1
    clear H1
    replace H := Option.bind_eq_some_iff.mp H
    obtain ⟨t136, A50, H⟩ := H
    replace H : ((wire_zigzag.f a1).bind fun t139 => ((wire_put.f k t136 t139).bind fun t140 => (some (t140, 0)))) = some (r1, r2) := H
    have A5 := Aside0.mk A50
    clear A50
    replace H := Option.bind_eq_some_iff.mp H
    obtain ⟨t139, A60, H⟩ := H
    replace H : ((wire_put.f k t136 t139).bind fun t140 => (some (t140, 0))) = some (r1, r2) := H
    have A6 := Aside0.mk A60
    clear A60
    replace H := Option.bind_eq_some_iff.mp H
    obtain ⟨t140, A70, H⟩ := H
    replace H : (some (t140, 0)) = some (r1, r2) := H
    have A7 := Aside0.mk A70
    clear A70
    simp only [Option.some.injEq, Prod.mk.injEq] at H
    obtain ⟨rfl, rfl⟩ := H
    go_enter Try.func19, Try.ntmps19
    go_wp2_with (first | ((with_reducible refine gate_callee (f := 53) rfl ?_); refine goesL_ (some 7) rfl rfl Try.func53 (by kernel_rfl) rfl #[.int .i64 a1] rfl (by (try simp only [List.map_toArray, List.map_cons, List.map_nil]); first | done | rfl | (simp only [List.length_drop, List.length_take]; rfl)) ?_; (with_reducible refine (wire_isNumber.calls a1 true _ A3.out).mono ?_); rintro e w' ⟨rfl, ⟨nd, rfl⟩⟩; refine ⟨_, rfl, ?_⟩) | ((with_reducible refine gate_callee (f := 55) rfl ?_); refine goesL_ (some 10) rfl rfl Try.func55 (by kernel_rfl) rfl #[.slice A0 l0.length c0] rfl (by (try simp only [List.map_toArray, List.map_cons, List.map_nil]); first | done | rfl | (simp only [List.length_drop, List.length_take]; rfl)) ?_; (with_reducible refine (slices_Clone_byte_byte.calls _ _ l0 t136 _ ?side1 ?side2 A5.out).mono ?_); (case side1 => repeat (first | exact HR0.out | (with_reducible refine Kd.C_alloc ?_ _) | (with_reducible refine Kd.C_drewN ?_ _) | (with_reducible refine Kd.C_drew ?_))); (case side2 => exact HC0.out); rintro e w8 ⟨v137, rfl, ho0, hb⟩; refine ⟨_, rfl, ?_⟩; have n0_ := Aside0.mk (Kd.R_lower ho0 (below_size (by repeat (first | (with_reducible first | exact HB.out | apply below_alloc | apply pw_below_drewN | apply below_drew1) | exact HB.out)))); have n1_ := Aside0.mk (below_step (by repeat (first | (with_reducible first | exact HB.out | apply below_alloc | apply pw_below_drewN | apply below_drew1) | exact HB.out)) hb); clear HB; have HO138 := n0_; have HB := n1_; clear n0_ n1_; (try clear hb); (try clear hb2); (try clear hk); (try clear hi); (try clear ho0)) | ((with_reducible refine gate_callee (f := 56) rfl ?_); refine goesL_ (some 12) rfl rfl Try.func56 (by kernel_rfl) rfl #[.int .i64 a1] rfl (by (try simp only [List.map_toArray, List.map_cons, List.map_nil]); first | done | rfl | (simp only [List.length_drop, List.length_take]; rfl)) ?_; (with_reducible refine (wire_zigzag.calls a1 t139 _ A6.out).mono ?_); rintro e w' ⟨rfl, ⟨nd, rfl⟩⟩; refine ⟨_, rfl, ?_⟩; obtain ⟨Ao9, co9, eo9⟩ := Kd.R_slice HO138.out; subst eo9) | ((with_reducible refine gate_callee (f := 54) rfl ?_); refine goesL_ (some 13) rfl rfl Try.func54 (by kernel_rfl) rfl #[.slice Ao9 t136.length co9, .int .i64 t139] rfl (by (try simp only [List.map_toArray, List.map_cons, List.map_nil]); first | done | rfl | (simp only [List.length_drop, List.length_take]; rfl)) ?_; (with_reducible refine (wire_put.calls k (fun k_ => some k_ = (.slice Ao9 t136.length co9 : Value).ownBlock) (.slice Ao9 t136.length co9) t136 t139 t140 w _ ?side1 ?side2 A7.out).mono ?_); (case side1 => repeat (first | (with_reducible first | exact HB.out | apply below_alloc | apply pw_below_drewN | apply below_drew1) | exact HB.out)); (case side2 => exact Kd.R_tight rfl HO138.out); rintro e w10 ⟨v141, rfl, ho0, hb, hkp⟩; refine ⟨_, rfl, ?_⟩; have n0_ := Aside0.mk (Kd.R_mono (ok' := fun k_ => True) ho0 (fun k_ hk_ => trivial)); have n1_ := Aside0.mk (hb); clear HB; clear HO138; have HO142 := n0_; have HB := n1_; clear n0_ n1_; (try clear hb); (try clear hkp); (try clear ho0)))
    go_ret2
    exact ⟨_, by first | rfl | (simp [errW_none, errW_some] <;> rfl) | (simp [*, errW_none, errW_some] <;> rfl), by (with_reducible repeat (first | apply Kd.R_alloc | apply Kd.R_drewN | apply Kd.R_drew)); exact HO142.out, by repeat (first | (with_reducible first | exact HB.out | apply below_alloc | apply pw_below_drewN | apply below_drew1) | exact HB.out)⟩
  · replace c4 := Bool.eq_false_iff.mpr c4
    subst c4
    have H1 : (some (([] : List Int), 3)) = some (r1, r2) := by rw [if_neg (show ¬ (false = true) by decide)] at H; exact H
    clear H
    have H := H1
    clear H1
    simp only [Option.some.injEq, Prod.mk.injEq] at H
    obtain ⟨rfl, rfl⟩ := H
    go_enter Try.func19, Try.ntmps19
    go_wp2_with (first | ((with_reducible refine gate_callee (f := 53) rfl ?_); refine goesL_ (some 7) rfl rfl Try.func53 (by kernel_rfl) rfl #[.int .i64 a1] rfl (by (try simp only [List.map_toArray, List.map_cons, List.map_nil]); first | done | rfl | (simp only [List.length_drop, List.length_take]; rfl)) ?_; (with_reducible refine (wire_isNumber.calls a1 false _ A3.out).mono ?_); rintro e w' ⟨rfl, ⟨nd, rfl⟩⟩; refine ⟨_, rfl, ?_⟩))
    go_ret2
    exact ⟨_, by first | rfl | (simp [errW_none, errW_some] <;> rfl) | (simp [*, errW_none, errW_some] <;> rfl), by first | exact Kd.R_nil _ _ _ _ _ | exact Kd.N_nil _ _ _ _ _ | exact Kd.V_nil _ _ _ _ _ | exact Kd.Q_nil _ _ _ _ _ | exact Kd.S_nil _ _ _ _ _, by repeat (first | (with_reducible first | exact HB.out | apply below_alloc | apply pw_below_drewN | apply below_drew1) | exact HB.out)⟩

/-! ### slotmeshlaw04_number: function 52 -/
def slotmeshlaw04_number.f (k : Nat) (a0 : Int) (l1 : List Int) : Option (Bool) := (wire_PutNumber.f k ([] : List Int) a0).bind fun bt143 => ((wire_Number.f l1 0).bind fun bt147 => (if bt143.2 = 0 then (if bt147.2.2 = 0 then ((slotmeshref04_Same.f k bt143.1 l1).bind fun t150 => (if t150 = true then (if bt147.1 = a0 then (some (bt147.2.1 == (l1.length : Int))) else (none)) else (none))) else (none)) else (none)))
theorem slotmeshlaw04_number.mono : ∀ a0 a1 k, LeO (slotmeshlaw04_number.f k a0 a1) (slotmeshlaw04_number.f (k + 1) a0 a1) := by
  intro a0 a1 k
  unfold slotmeshlaw04_number.f
  repeat' first
      | (with_reducible exact slotmeshref04_Same.mono _ _ _)
      | (with_reducible exact wire_PutNumber.mono _ _ _)
      | (with_reducible exact LeO.refl _)
      | (with_reducible exact LeO.none _)
      | (with_reducible refine LeO.ite ?_ ?_)
      | (with_reducible refine LeO.bind ?_ (fun _ => ?_))
      | exact slotmeshref04_Same.mono _ _ _
      | exact wire_PutNumber.mono _ _ _
      | exact LeO.none _
      | refine LeO.ite ?_ ?_
      | refine LeO.bind ?_ (fun _ => ?_)
set_option maxHeartbeats 8000000 in
set_option maxRecDepth 100000 in
theorem slotmeshlaw04_number.calls (k : Nat) (a0 : Int) (A1 : Option Addr) (c1 : Nat) (l1 : List Int) (r : Bool) (w : World) (hr1 : Kd.C (Kd.int .u8) w A1 l1.length l1) (hc1 : l1.length ≤ c1) (h : slotmeshlaw04_number.f k a0 l1 = some r) :
    Calls Try.prog 52 #[.int .i64 a0, .slice A1 l1.length c1] w fun e w' => e = .returned (.bool r) ∧ Below w.heap.size w w' := by
  have HR1 := Aside0.mk hr1
  have HC1 := Aside0.mk hc1
  clear hr1 hc1
  have HB := Aside0.mk (Below.refl w.heap.size w)
  have H : ((wire_PutNumber.f k ([] : List Int) a0).bind fun bt143 => ((wire_Number.f l1 0).bind fun bt147 => (if bt143.2 = 0 then (if bt147.2.2 = 0 then ((slotmeshref04_Same.f k bt143.1 l1).bind fun t150 => (if t150 = true then (if bt147.1 = a0 then (some (bt147.2.1 == (l1.length : Int))) else (none)) else (none))) else (none)) else (none)))) = some r := h
  clear h
  replace H := Option.bind_eq_some_iff.mp H
  obtain ⟨⟨t143, t144⟩, A30, H⟩ := H
  replace H : ((wire_Number.f l1 0).bind fun bt147 => (if t144 = 0 then (if bt147.2.2 = 0 then ((slotmeshref04_Same.f k t143 l1).bind fun t150 => (if t150 = true then (if bt147.1 = a0 then (some (bt147.2.1 == (l1.length : Int))) else (none)) else (none))) else (none)) else (none))) = some r := H
  have A3 := Aside0.mk A30
  clear A30
  replace H := Option.bind_eq_some_iff.mp H
  obtain ⟨⟨t147, t148, t149⟩, A40, H⟩ := H
  replace H : (if t144 = 0 then (if t149 = 0 then ((slotmeshref04_Same.f k t143 l1).bind fun t150 => (if t150 = true then (if t147 = a0 then (some (t148 == (l1.length : Int))) else (none)) else (none))) else (none)) else (none)) = some r := H
  have A4 := Aside0.mk A40
  clear A40
  by_cases c5 : t144 = 0
  · rw [if_pos c5] at H
    have c5b0 : (t144 == 0) = true := beq_iff_eq.mpr c5
    have c5b1 : (t144 != 0) = false := bne_eq_false_iff_eq.mpr c5
    clear c5
    by_cases c6 : t149 = 0
    · rw [if_pos c6] at H
      have c6b0 : (t149 == 0) = true := beq_iff_eq.mpr c6
      have c6b1 : (t149 != 0) = false := bne_eq_false_iff_eq.mpr c6
      clear c6
      replace H := Option.bind_eq_some_iff.mp H
      obtain ⟨t150, A70, H⟩ := H
      replace H : (if t150 = true then (if t147 = a0 then (some (t148 == (l1.length : Int))) else (none)) else (none)) = some r := H
      have A7 := Aside0.mk A70
      clear A70
      by_cases c8 : t150 = true
      · subst c8
        have H1 : (if t147 = a0 then (some (t148 == (l1.length : Int))) else (none)) = some r := by rw [if_pos rfl] at H; exact H
        clear H
        have H := H1
        clear H1
        by_cases c9 : t147 = a0
        · rw [if_pos c9] at H
          have c9b0 : (t147 == a0) = true := beq_iff_eq.mpr c9
          have c9b1 : (t147 != a0) = false := bne_eq_false_iff_eq.mpr c9
          clear c9
          obtain rfl := Option.some.inj H
          go_enter Try.func52, Try.ntmps52
          go_wp2_with (first | ((with_reducible refine gate_callee (f := 19) rfl ?_); refine goesL_ (some 12) rfl rfl Try.func19 (by kernel_rfl) rfl #[.slice none 0 0, .int .i64 a0] rfl (by (try simp only [List.map_toArray, List.map_cons, List.map_nil]); first | done | rfl | (simp only [List.length_drop, List.length_take]; rfl)) ?_; (refine (wire_PutNumber.calls k _ _ ([] : List Int) a0 t143 t144 _ ?side1 ?side2 A3.out).mono ?_); (case side1 => exact Kd.C_nil _ _); (case side2 => exact Nat.le_refl _); rintro e w10 ⟨v145, rfl, ho0, hb⟩; refine ⟨_, rfl, ?_⟩; have n0_ := Aside0.mk (Kd.R_lower ho0 (below_size (by repeat (first | (with_reducible first | exact HB.out | apply below_alloc | apply pw_below_drewN | apply below_drew1) | exact HB.out)))); have n1_ := Aside0.mk (below_step (by repeat (first | (with_reducible first | exact HB.out | apply below_alloc | apply pw_below_drewN | apply below_drew1) | exact HB.out)) hb); clear HB; have HO146 := n0_; have HB := n1_; clear n0_ n1_; (try clear hb); (try clear hb2); (try clear hk); (try clear hi); (try clear ho0)) | ((with_reducible refine gate_callee (f := 22) rfl ?_); refine goesL_ (some 17) rfl rfl Try.func22 (by kernel_rfl) rfl #[.slice A1 l1.length c1, .int .i64 0] rfl (by (try simp only [List.map_toArray, List.map_cons, List.map_nil]); first | done | rfl | (simp only [List.length_drop, List.length_take]; rfl)) ?_; (with_reducible refine (wire_Number.calls _ _ l1 0 t147 t148 t149 _ ?side1 ?side2 A4.out).mono ?_); (case side1 => repeat (first | exact (Kd.C_below HR1.out HB.out) | (with_reducible refine Kd.C_alloc ?_ _) | (with_reducible refine Kd.C_drewN ?_ _) | (with_reducible refine Kd.C_drew ?_))); (case side2 => exact HC1.out); rintro e w' ⟨rfl, ⟨nd, rfl⟩⟩; refine ⟨_, rfl, ?_⟩; obtain ⟨Ao11, co11, eo11⟩ := Kd.R_slice HO146.out; subst eo11) | (go_at_call 21; (with_reducible refine (slotmeshref04_Same.calls k _ _ t143 _ _ l1 true _ ?side1 ?side2 ?side3 ?side4 A7.out).mono ?_); (case side1 => repeat (first | exact (Kd.R_reads' HO146.out).2.2 | (with_reducible refine Kd.C_alloc ?_ _) | (with_reducible refine Kd.C_drewN ?_ _) | (with_reducible refine Kd.C_drew ?_))); (case side2 => exact (Kd.R_reads' HO146.out).2.1); (case side3 => repeat (first | exact (Kd.C_below HR1.out (by repeat (first | (with_reducible first | exact HB.out | apply below_alloc | apply pw_below_drewN | apply below_drew1) | exact HB.out))) | (with_reducible refine Kd.C_alloc ?_ _) | (with_reducible refine Kd.C_drewN ?_ _) | (with_reducible refine Kd.C_drew ?_))); (case side4 => exact HC1.out); rintro e w' ⟨rfl, ⟨nd, rfl⟩⟩))
          go_ret
          exact ⟨by first | rfl | (simp [errW_none, errW_some] <;> rfl) | (simp [*, errW_none, errW_some] <;> rfl), by repeat (first | (with_reducible first | exact HB.out | apply below_alloc | apply pw_below_drewN | apply below_drew1) | exact HB.out)⟩
        · rw [if_neg c9] at H
          exact absurd H (by simp)
      · replace c8 := Bool.eq_false_iff.mpr c8
        subst c8
        have H1 : (none) = some r := by rw [if_neg (show ¬ (false = true) by decide)] at H; exact H
        clear H
        have H := H1
        clear H1
        exact absurd H (by simp)
    · rw [if_neg c6] at H
      exact absurd H (by simp)
  · rw [if_neg c5] at H
    exact absurd H (by simp)

end Go.Proofs.Ytanipbjbaalomaa.PWire
