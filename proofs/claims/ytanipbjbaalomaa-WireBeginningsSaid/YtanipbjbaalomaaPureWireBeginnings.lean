/- For all bytes b, numbers n and byte strings x (up to 6000 bytes): what PutNumber and PutBytes write behind b is b, followed by what they write behind no bytes. No condition. -/
import Derived.Test.YtanipbjbaalomaaPWirex12
import Derived.Test.YtanipbjbaalomaaWireCl
namespace Go.Proofs.Ytanipbjbaalomaa.Pure
open Go.RowKit Go.Proofs.Ytanipbjbaalomaa.PWire Go.Proofs.YtanipbjbaalomaaW.PrintWords Go.Proofs.YtanipbjbaalomaaW.PrintLast

theorem WireBeginnings : slotmeshlaw04_WireBeginnings.Pure := by
  intro b n x _ _ _ _ _ _ _
  refine ⟨100000, ?_⟩
  unfold slotmeshlaw04_WireBeginnings.f
  rw [Pl.head_cl (by omega), Pl.few_cl]
  simp only [Option.bind_some]
  by_cases hf : b.length ≤ 6000 ∧ x.length ≤ 6000
  · rw [if_pos (by simpa using hf), Pl.putNumber_cl n (by omega) (by omega), Pl.putNumber_cl n (by omega) (by simp), Pl.putBytes_cl (by omega) (by omega), Pl.putBytes_cl (by omega) (by simp)]
    simp only [Option.bind_some]
    have e1 : (Pl.putNum b n).2 = (Pl.putNum [] n).2 := by unfold Pl.putNum; split <;> rfl
    have e2 : (Pl.putByt b x).2 = (Pl.putByt [] x).2 := by unfold Pl.putByt; split <;> rfl
    rw [if_pos e1, e2]
    simp only [bne_self_eq_false, slotmeshlaw04_WireBeginnings.j0, Bool.false_eq_true, if_false, if_true, List.replicate_zero, Option.bind_some, List.length_nil, List.nil_append]
    have hS : ∀ k, 99999 ≤ k → (Pl.putByt [] x).2 = 0 → slotmeshref04_Same.f k (Pl.putByt b x).1 (b ++ (Pl.putByt [] x).1) = some true := by
      intro k hk h0
      have hx : x.length ≤ 4000 := by
        unfold Pl.putByt at h0
        split at h0
        · assumption
        · simp at h0
      have h7 := Pl.wn_len (Pl.len_inNum hx)
      unfold Pl.putByt
      rw [if_pos hx, if_pos hx, Pl.same_all (by simp only [List.length_append]; omega) (by simp only [List.length_append]; omega)]
      simp
    have hL : (Pl.putByt [] x).1.length ≤ 5000 := by
      unfold Pl.putByt
      split
      · rename_i hx
        have h7 := Pl.wn_len (Pl.len_inNum hx)
        simp only [List.length_append, List.length_nil]; omega
      · simp
    by_cases hn : Pl.inNum n = true
    · have h7 := Pl.wn_len hn
      have p1 : Pl.putNum b n = (b ++ Pl.wn n, 0) := by unfold Pl.putNum; rw [if_pos hn]
      have p2 : Pl.putNum [] n = (Pl.wn n, 0) := by unfold Pl.putNum; rw [if_pos hn]; rfl
      rw [p1, p2]
      simp only [if_true]
      rw [if_pos (by omega), if_pos (by omega), if_pos (by omega), Pl.same_all (by simp only [List.length_append]; omega) (by simp only [List.length_append]; omega)]
      simp only [decide_true, Option.bind_some, if_true]
      by_cases h0 : (Pl.putByt [] x).2 = 0
      · rw [if_pos h0, if_pos (by omega), if_pos (by omega), hS _ (by omega) h0]
        rfl
      · rw [if_neg h0]
    · have p1 : Pl.putNum [] n = ([], 3) := by unfold Pl.putNum; rw [if_neg hn]
      have p2 : Pl.putNum b n = ([], 3) := by unfold Pl.putNum; rw [if_neg hn]
      rw [p2, if_neg (by simp)]
      by_cases h0 : (Pl.putByt [] x).2 = 0
      · rw [if_pos h0, if_pos (by omega), if_pos (by omega), if_pos (by omega), hS _ (by omega) h0]
        rfl
      · rw [if_neg h0]
  · rw [if_neg (by simpa using hf)]

end Go.Proofs.Ytanipbjbaalomaa.Pure
