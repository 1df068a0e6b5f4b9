/- WireNumbers holds. No condition. -/
import Derived.Test.YtanipbjbaalomaaPWirex8
import Derived.Test.YtanipbjbaalomaaWireUp
namespace Go.Proofs.Ytanipbjbaalomaa.Pure
open Go.RowKit Go.Proofs.Ytanipbjbaalomaa.PWire Go.Proofs.YtanipbjbaalomaaW.PrintWords Go.Proofs.YtanipbjbaalomaaW.PrintLast
set_option linter.unusedVariables false

theorem WireNumbers (b : List Int) (n : Int) (x : List Int) (a : Int)
    (hb : b.length ≤ maxLen ∧ ∀ n ∈ b, (Lit.int .u8 n).wf = true) (hn : (Lit.int .i64 n).wf = true) (hx : x.length ≤ maxLen ∧ ∀ n ∈ x, (Lit.int .u8 n).wf = true) (ha : (Lit.int .i64 a).wf = true) : ∃ k, slotmeshlaw04_WireNumbers.f k b n x a = some true := by
  refine ⟨100000, ?_⟩
  have hbB := Pl.isB_wf hb.2
  have hxB := Pl.isB_wf hx.2
  unfold slotmeshlaw04_WireNumbers.f
  rw [Pl.head_cl (by omega), Pl.few_cl]
  simp only [Option.bind_some]
  by_cases hl : b.length ≤ 6000 ∧ x.length ≤ 6000
  case neg => rw [if_neg (by simpa using hl)]
  obtain ⟨hlb, hlx⟩ := hl
  rw [if_pos (by simp [hlb, hlx]), Pl.putNumber_cl n (by omega) (by omega)]
  simp only [Option.bind_some]
  have T : ∀ y, (y = true → ¬ Pl.inNum n = true) → (y = false → Pl.inNum n = true) → slotmeshlaw04_WireNumbers.j0 100000 b n x a true (Pl.putNum b n).1 (Pl.putNum b n).2 y = some true := by
    intro y h1 h2
    simp only [slotmeshlaw04_WireNumbers.j0]
    cases y with
    | true =>
      have hp : Pl.putNum b n = ([], 3) := by unfold Pl.putNum; rw [if_neg (h1 rfl)]
      rw [hp, if_pos rfl]; simp
    | false =>
      have hin := h2 rfl
      have hp : Pl.putNum b n = (b ++ Pl.wn n, 0) := by unfold Pl.putNum; rw [if_pos hin]
      rw [hp, if_neg (by simp)]
      have hw := Pl.wn_len hin
      have h1w := Pl.wn_one hin
      have U : slotmeshlaw04_WireNumbers.j1 99999 b n x a true (b ++ Pl.wn n) false = some true := by
        simp only [slotmeshlaw04_WireNumbers.j1, List.replicate_zero, Option.bind_some, List.nil_append, List.length_nil]
        rw [if_neg (by simp), if_pos (by omega), if_pos (by simp only [List.length_append]; omega), if_pos (by simp only [List.length_append]; omega)]
        have hB2 : Pl.isB (b ++ Pl.wn n ++ x) = true := by rw [Pl.isB_append, Pl.isB_append, hbB, Pl.wn_isB, hxB]; rfl
        rw [Pl.number_cl hB2 (by simp only [List.length_append]; omega), Pl.num_wn b x n hin]
        simp only [Option.bind_some, if_true]
        rw [if_pos (by rw [List.length_append]; omega), if_pos (by omega), if_pos (by rw [List.length_append]; omega), Int.toNat_natCast, List.take_left, Pl.same_all (by omega) (by omega), Pl.number_cl hbB (by omega)]
        simp only [Option.bind_some, decide_true]
        obtain ⟨m, e, r, hr⟩ : ∃ m e r, Pl.num b a = (m, e, r) := ⟨_, _, _, rfl⟩
        rw [hr]
        simp only
        by_cases hr0 : r = 0
        · subst hr0
          obtain ⟨g1, g2, g3, g4, g5, g6⟩ := Pl.num_ok hbB hr
          have g7 := Pl.wn_len g3
          rw [if_pos rfl, if_neg (by omega), if_neg (by omega), decide_eq_false (by omega)]
          simp only [slotmeshlaw04_WireNumbers.j2]
          rw [if_neg (by simp), Pl.putNumber_cl m (by omega) (by simp)]
          simp only [Option.bind_some]
          unfold Pl.putNum
          rw [if_pos g3]
          simp only [List.nil_append, if_true]
          rw [if_pos g1, if_pos (by omega), if_pos (by omega), Pl.same_all (by omega) (by omega)]
          have he : (b.take e.toNat).drop a.toNat = Pl.wn m := by
            rw [g4, Pl.take_drop_mid b g1 (by omega), Int.toNat_natCast]
            exact g6
          rw [he]
          simp
        · rw [if_neg hr0]
      have w7 : wrap64 ((b.length : Int) + 7) = (b.length : Int) + 7 := Pl.w64 (by omega) (by omega)
      have w1 : wrap64 ((b.length : Int) + 1) = (b.length : Int) + 1 := Pl.w64 (by omega) (by omega)
      simp only [if_true]
      rw [w7, w1, if_neg (by rw [List.length_append]; omega), if_neg (by rw [List.length_append]; omega)]
      have hz : ((((b ++ Pl.wn n).length : Nat) : Int) == (b.length : Int) + 1) = decide (-64 ≤ n ∧ n ≤ 63) := by
        rw [Bool.eq_iff_iff]
        simp only [beq_iff_eq, decide_eq_true_eq, List.length_append]
        rw [← h1w]
        omega
      rw [hz]
      by_cases h64 : n ≥ -64
      · rw [if_pos h64]
        have : decide (-64 ≤ n ∧ n ≤ 63) = decide (n ≤ 63) := by simp [show -64 ≤ n from h64]
        rw [this]
        simp only [bne_self_eq_false]
        exact U
      · rw [if_neg h64]
        have : decide (-64 ≤ n ∧ n ≤ 63) = false := by simp; omega
        rw [this]
        exact U
  have hi := Pl.inNum_iff n
  by_cases hn1 : n < -10000000000000
  · rw [if_pos hn1]
    exact T true (fun _ => by rw [hi]; omega) (by simp)
  · rw [if_neg hn1]
    exact T _ (fun h => by have := of_decide_eq_true h; rw [hi]; omega) (fun h => by have := of_decide_eq_false h; rw [hi]; omega)

end Go.Proofs.Ytanipbjbaalomaa.Pure
