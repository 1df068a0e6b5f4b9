/- WireTwoFrames holds. No condition. -/
import Derived.Test.YtanipbjbaalomaaPWirex11
import Derived.Test.YtanipbjbaalomaaWireUp
namespace Go.Proofs.Ytanipbjbaalomaa.Pure
open Go.RowKit Go.Proofs.Ytanipbjbaalomaa.PWire Go.Proofs.YtanipbjbaalomaaW.PrintWords Go.Proofs.YtanipbjbaalomaaW.PrintLast
set_option linter.unusedVariables false

/-- No frame's bytes are a proper beginning of another's. -/
theorem no_begin {a0 a1 a2 a3 a4 c0 c1 c2 c3 c4 : Int} {b c : List Int} (hb : Pl.isB b = true) (hc : Pl.isB c = true) (h : Pl.okF a0 a1 a2 a3 a4 b = true) (g : Pl.okF c0 c1 c2 c3 c4 c = true)
    (he : Pl.hd5 a0 a1 a2 a3 a4 ++ Pl.wn b.length ++ b = (Pl.hd5 c0 c1 c2 c3 c4 ++ Pl.wn c.length ++ c).take (Pl.hd5 a0 a1 a2 a3 a4 ++ Pl.wn b.length ++ b).length) :
    (Pl.hd5 c0 c1 c2 c3 c4 ++ Pl.wn c.length ++ c).length ≤ (Pl.hd5 a0 a1 a2 a3 a4 ++ Pl.wn b.length ++ b).length := by
  by_cases hl : (Pl.hd5 c0 c1 c2 c3 c4 ++ Pl.wn c.length ++ c).length ≤ (Pl.hd5 a0 a1 a2 a3 a4 ++ Pl.wn b.length ++ b).length
  · exact hl
  · exfalso
    obtain ⟨e0, e1, e2, e3, e4, e5, F⟩ := Pl.fr_of_unpack (Pl.isB_pck hc) (Pl.upk_pck g)
    have := F.cut (Pl.isB_pck hc) (Pl.hd5 a0 a1 a2 a3 a4 ++ Pl.wn b.length ++ b).length (by omega)
    rw [← he, Pl.upk_pck h] at this
    simp at this
theorem WireTwoFrames (a0 a1 a2 a3 a4 : Int) (b : List Int) (c0 c1 c2 c3 c4 : Int) (c : List Int)
    (_ : (Lit.int .i64 a0).wf = true) (_ : (Lit.int .i64 a1).wf = true) (_ : (Lit.int .i64 a2).wf = true) (_ : (Lit.int .i64 a3).wf = true) (_ : (Lit.int .i64 a4).wf = true)
    (hb : b.length ≤ maxLen ∧ ∀ n ∈ b, (Lit.int .u8 n).wf = true)
    (_ : (Lit.int .i64 c0).wf = true) (_ : (Lit.int .i64 c1).wf = true) (_ : (Lit.int .i64 c2).wf = true) (_ : (Lit.int .i64 c3).wf = true) (_ : (Lit.int .i64 c4).wf = true)
    (hc : c.length ≤ maxLen ∧ ∀ n ∈ c, (Lit.int .u8 n).wf = true) : ∃ k, slotmeshlaw04_WireTwoFrames.f k a0 a1 a2 a3 a4 b c0 c1 c2 c3 c4 c = some true := by
  refine ⟨100000, ?_⟩
  have hbB := Pl.isB_wf hb.2
  have hcB := Pl.isB_wf hc.2
  unfold slotmeshlaw04_WireTwoFrames.f
  rw [Pl.head_cl (by omega)]
  simp only [Option.bind_some]
  have T : ∀ y, (y = false → b.length ≤ 6000 ∧ c.length ≤ 6000) → slotmeshlaw04_WireTwoFrames.j0 100000 true y a0 a1 a2 a3 a4 b c0 c1 c2 c3 c4 c = some true := by
    intro y hy
    simp only [slotmeshlaw04_WireTwoFrames.j0]
    cases y with
    | true => simp
    | false =>
      obtain ⟨hlb, hlc⟩ := hy rfl
      rw [if_neg (by simp), Pl.pack_cl _ _ _ _ _ _ (by omega), Pl.pack_cl _ _ _ _ _ _ (by omega)]
      simp only [Option.bind_some]
      unfold Pl.pck
      by_cases h : Pl.okF a0 a1 a2 a3 a4 b = true
      · by_cases g : Pl.okF c0 c1 c2 c3 c4 c = true
        · rw [if_pos h, if_pos g]
          simp only [if_true]
          have hA := Pl.upk_pck h
          have hC := Pl.upk_pck g
          have hAl := (Pl.pck_len h).1
          have hCl := (Pl.pck_len g).1
          have n1 := no_begin hbB hcB h g
          have n2 := no_begin hcB hbB g h
          have heq : (Pl.hd5 a0 a1 a2 a3 a4 ++ Pl.wn b.length ++ b = Pl.hd5 c0 c1 c2 c3 c4 ++ Pl.wn c.length ++ c) → (a0, a1, a2, a3, a4, b) = (c0, c1, c2, c3, c4, c) := by
            intro e
            rw [e, hC] at hA
            simp only [Prod.mk.injEq, and_true] at hA ⊢
            obtain ⟨h0, h1, h2, h3, h4, h5⟩ := hA
            exact ⟨h0.symm, h1.symm, h2.symm, h3.symm, h4.symm, h5.symm⟩
          have hqe : (a0, a1, a2, a3, a4, b) = (c0, c1, c2, c3, c4, c) → (Pl.hd5 a0 a1 a2 a3 a4 ++ Pl.wn b.length ++ b = Pl.hd5 c0 c1 c2 c3 c4 ++ Pl.wn c.length ++ c) := by
            intro e
            simp only [Prod.mk.injEq] at e
            obtain ⟨rfl, rfl, rfl, rfl, rfl, rfl⟩ := e
            rfl
          generalize Pl.hd5 a0 a1 a2 a3 a4 ++ Pl.wn b.length ++ b = A at *
          generalize Pl.hd5 c0 c1 c2 c3 c4 ++ Pl.wn c.length ++ c = C at *
          simp only [slotmeshlaw04_WireTwoFrames.j1]
          rw [if_neg (by simp), Pl.sameFrame_cl _ _ _ _ _ _ _ _ _ _ _ _ (by omega) (by omega)]
          simp only [Option.bind_some, if_true]
          rw [Pl.same_all (by omega) (by omega)]
          simp only [Option.bind_some]
          by_cases he : A = C
          · have hf := heq he
            simp only [Prod.mk.injEq] at hf
            rw [decide_eq_true he, decide_eq_true (by simp [hf])]
            simp
          · have hf : ¬ (a0, a1, a2, a3, a4, b) = (c0, c1, c2, c3, c4, c) := fun e => he (hqe e)
            simp only [Prod.mk.injEq] at hf
            rw [decide_eq_false he, decide_eq_false (by rintro h; apply hf; simp [h])]
            obtain ⟨n, hn⟩ : ∃ n : Nat, mn (A.length : Int) (C.length : Int) = n ∧ n ≤ A.length ∧ n ≤ C.length ∧ (n = A.length ∨ n = C.length) := by
              unfold mn
              by_cases hlt : (C.length : Int) < (A.length : Int)
              · exact ⟨C.length, by rw [if_pos hlt], by omega, by omega, .inr rfl⟩
              · exact ⟨A.length, by rw [if_neg hlt], by omega, by omega, .inl rfl⟩
            obtain ⟨hn, hn1, hn2, hn3⟩ := hn
            rw [hn, if_pos (by simp), if_neg (by simp), if_pos (by omega), if_pos (by omega), if_pos (by omega), Int.toNat_natCast, Pl.same_all (by rw [List.length_take]; omega) (by rw [List.length_take]; omega)]
            have hne : ¬ A.take n = C.take n := by
              intro ht
              rcases hn3 with h3 | h3
              · subst h3
                rw [List.take_length] at ht
                have := n1 ht
                rw [List.take_of_length_le this] at ht
                exact he ht
              · subst h3
                rw [List.take_length] at ht
                have := n2 ht.symm
                rw [List.take_of_length_le this] at ht
                exact he ht
            rw [decide_eq_false hne]
            rfl
        · rw [if_pos h, if_neg g]
          simp [slotmeshlaw04_WireTwoFrames.j1]
      · rw [if_neg h]
        simp [slotmeshlaw04_WireTwoFrames.j1]
  by_cases hl : (b.length : Int) > 6000
  · rw [if_pos hl]
    exact T true (by simp)
  · rw [if_neg hl]
    exact T _ (fun h => by have := of_decide_eq_false h; omega)

end Go.Proofs.Ytanipbjbaalomaa.Pure
