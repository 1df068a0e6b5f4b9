/- wire and its reference agree. No condition. -/
import Derived.Test.YtanipbjbaalomaaPWirex7
import Derived.Test.YtanipbjbaalomaaRefCl
namespace Go.Proofs.Ytanipbjbaalomaa.Pure
open Go.RowKit Go.Proofs.Ytanipbjbaalomaa.PWire Go.Proofs.YtanipbjbaalomaaW.PrintWords Go.Proofs.YtanipbjbaalomaaW.PrintLast

theorem upk_b {l : List Int} : (Pl.upk l).2.2.2.2.2.1.length ≤ l.length := by
  unfold Pl.upk
  split
  · split
    · split
      · simp
      · simp only
        unfold Pl.byt
        repeat' split
        all_goals first | (simp; done) | (simp only [List.length_take, List.length_drop]; omega)
    · simp
  · simp
theorem putNum_len {l : List Int} {n : Int} : (Pl.putNum l n).1.length ≤ l.length + 10 := by
  unfold Pl.putNum
  split
  · rename_i h
    have := (Pl.wn_len h).2
    simp only [List.length_append]
    omega
  · simp
theorem putByt_len {l x : List Int} : (Pl.putByt l x).1.length ≤ l.length + 5000 := by
  unfold Pl.putByt
  split
  · rename_i h
    have := (Pl.wn_len (Pl.len_inNum h)).2
    simp only [List.length_append]
    omega
  · simp
theorem byt_len {l : List Int} {a : Int} : (Pl.byt l a).1.length ≤ l.length := by
  unfold Pl.byt
  repeat' split
  all_goals first | (simp; done) | (simp only [List.length_take, List.length_drop]; omega)
theorem pck_len' {a0 a1 a2 a3 a4 : Int} {b : List Int} : (Pl.pck a0 a1 a2 a3 a4 b).1.length ≤ 10000 := by
  unfold Pl.pck
  split
  · rename_i h
    have := (Pl.pck_len h).1
    simp only at this ⊢
    omega
  · simp
theorem WireMatchesReference (b x : List Int) (n a a0 a1 a2 a3 a4 : Int) (c : List Int)
    (hb : b.length ≤ maxLen ∧ ∀ n ∈ b, (Lit.int .u8 n).wf = true) (_ : x.length ≤ maxLen ∧ ∀ n ∈ x, (Lit.int .u8 n).wf = true) (_ : (Lit.int .i64 n).wf = true) (_ : (Lit.int .i64 a).wf = true) (_ : (Lit.int .i64 a0).wf = true) (_ : (Lit.int .i64 a1).wf = true) (_ : (Lit.int .i64 a2).wf = true) (_ : (Lit.int .i64 a3).wf = true) (_ : (Lit.int .i64 a4).wf = true)
    (_ : c.length ≤ maxLen ∧ ∀ n ∈ c, (Lit.int .u8 n).wf = true) : ∃ k, slotmeshlaw04_WireMatchesReference.f k b x n a a0 a1 a2 a3 a4 c = some true := by
  refine ⟨100000, ?_⟩
  have hbB := Pl.isB_wf hb.2
  unfold slotmeshlaw04_WireMatchesReference.f
  rw [Pl.head_cl (by omega), Pl.few_cl]
  simp only [Option.bind_some]
  have J0 : ∀ y, (y = false → b.length ≤ 6000 ∧ x.length ≤ 6000) → slotmeshlaw04_WireMatchesReference.j0 100000 b x n a true y a0 a1 a2 a3 a4 c = some true := by
    intro y hy
    simp only [slotmeshlaw04_WireMatchesReference.j0]
    cases y with
    | true => simp
    | false =>
      obtain ⟨hlb, hlx⟩ := hy rfl
      have g1 := @putNum_len b n
      have g2 := @putByt_len b x
      have g3 := @byt_len b a
      have g4 := @pck_len' a0 a1 a2 a3 a4 c
      have g5 := @upk_b b
      rw [if_neg (by simp), Pl.putNumber_cl n (by omega) (by omega), Pl.refPutNumber_cl n (by omega) (by omega)]
      simp only [Option.bind_some, if_true]
      rw [Pl.same_all (by omega) (by omega), Pl.number_cl hbB (by omega), Pl.refNumber_cl (by omega) hbB (by omega)]
      simp only [Option.bind_some, if_true, decide_true]
      rw [Pl.putBytes_cl (by omega) (by omega), Pl.refPutBytes_cl (by omega) (by omega)]
      simp only [Option.bind_some, if_true]
      rw [Pl.same_all (by omega) (by omega), Pl.bytes_cl (by omega) hbB (by omega), Pl.refBytes_cl (by omega) hbB (by omega)]
      simp only [Option.bind_some, if_true, decide_true]
      rw [Pl.same_all (by omega) (by omega), Pl.pack_cl _ _ _ _ _ _ (by omega), Pl.refPack_cl _ _ _ _ _ _ (by omega)]
      simp only [Option.bind_some, if_true, decide_true]
      rw [Pl.same_all (by omega) (by omega), Pl.unpack_cl (by omega) hbB (by omega), Pl.refUnpack_cl (by omega) hbB (by omega)]
      simp only [Option.bind_some, if_true, decide_true]
      rw [Pl.sameFrame_cl _ _ _ _ _ _ _ _ _ _ _ _ (by omega) (by omega)]
      simp
  by_cases h1 : b.length ≤ 6000 ∧ x.length ≤ 6000
  · rw [if_pos (decide_eq_true h1)]
    exact J0 _ (fun _ => h1)
  · rw [if_neg (by simpa using h1)]
    exact J0 true (by simp)

end Go.Proofs.Ytanipbjbaalomaa.Pure
