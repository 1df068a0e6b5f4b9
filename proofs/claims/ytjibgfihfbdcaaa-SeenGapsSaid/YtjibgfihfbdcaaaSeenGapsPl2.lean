/- What the law SeenGaps leans on, for its loops. -/
import Derived.Test.YtjibgfihfbdcaaaSeenGapsPl
namespace Go.Proofs.Ytjibgfihfbdcaaa.Pl
open Go.RowKit Go.Proofs.Ytjibgfihfbdcaaa.PSeen Go.Proofs.YtjibgfihfbdcaaaW.PrintWords
set_option linter.unusedVariables false
set_option linter.unusedSimpArgs false
theorem reach_row {l : List S45} (h : ∀ s ∈ l, (Lit.int .i64 s.f0).wf = true ∧ s.f1.length * 16 ≤ 140737488351232 ∧ ∀ x ∈ s.f1, (Lit.int .i64 x.f0).wf = true ∧ (Lit.int .i64 x.f1).wf = true) : Reach l := fun s hs => by
  have := (h s hs).2.1
  omega
theorem nextOf_zero (s : Int) (G : List Int) : nextOf s G 0 = s := by cases G <;> rfl
structure Gaps (l : List S45) (o : Int) (G : List Int) : Prop where
  len : G.length ≤ 200
  ran : G ≠ [] → 0 ≤ o ∧ o ≤ 59
  nil : OfL l o = [] → G = []
  gap : OfL l o ≠ [] → ∃ stop, GapTo (OfL l o) 1 G stop ∧ stop ≤ topR 0 (OfL l o) + 1 ∧ (G.length < 200 → stop = topR 0 (OfL l o) + 1)
theorem gaps_of {l : List S45} {o : Int} (hV : okV l = true) : Gaps l o (missR l o 200) := by
  obtain ⟨h1, h2, h3⟩ := okV_len hV
  unfold missR
  rw [if_pos hV]
  have hr : OfL l o ≠ [] → 0 ≤ o ∧ o ≤ 59 := fun hne => by
    by_cases ho : 0 ≤ o ∧ o ≤ 59
    · exact ho
    · refine absurd ?_ hne
      by_cases h : o ≤ -1
      · exact OfL_lo h3 h
      · exact OfL_hi h3 (by omega)
  have hn : OfL l o = [] → missC (OfL l o) 200 = [] := fun h => by rw [h]; rfl
  by_cases hne : OfL l o = []
  · exact ⟨by rw [hn hne]; simp, fun h => absurd (hn hne) h, hn, fun h => absurd hne h⟩
  · obtain ⟨stop, k1, k2, k3, k4⟩ := missC_gap (OfL_WR o h3) hne (most := 200) (by omega)
    exact ⟨by omega, fun _ => hr hne, hn, fun _ => ⟨stop, k1, k2, fun h => k4 (by omega)⟩⟩
structure Step (l : List S45) (o : Int) (G : List Int) (i : Nat) (g : Int) (m : List S45) : Prop where
  ran : 0 ≤ o ∧ o ≤ 59
  num : 1 ≤ g ∧ g ≤ 1000000000
  nxt : nextOf 1 G i ≤ g
  top : g < topR 0 (OfL l o)
  out : rinB (OfL l o) g = false
  bef : nextOf 1 G i < g → rinB (OfL l o) (g - 1) = true
  suc : nextOf 1 G (i + 1) = g + 1
  nin : rinB (OfL m o) g = false
  all : addAll l o (G.take (i + 1)) = addL m o g
  one : 1 ≤ nextOf 1 G i
theorem step_of {l : List S45} {o : Int} {G : List Int} (hV : okV l = true) (hG : Gaps l o G) {i : Nat} (hi : i < G.length) : Step l o G i G[i] (addAll l o (G.take i)) := by
  obtain ⟨h1, h2, h3⟩ := okV_len hV
  have hne0 : G ≠ [] := fun h => by rw [h] at hi; simp at hi
  have hne : OfL l o ≠ [] := fun h => hne0 (hG.nil h)
  have ho := hG.ran hne0
  obtain ⟨stop, k1, k2, k3⟩ := hG.gap hne
  have hw := OfL_WR o h3
  have htin := topR_in hw hne
  have hthi := WR.hi hw htin
  obtain ⟨a0, a1, a2, a3, a4, a5, a6⟩ := gap_at k1 i hi
  have hnt : G[i] ≠ topR 0 (OfL l o) := fun h => a3 (by rw [h]; exact htin)
  have hlt : ∀ q ∈ G.take i, 1 ≤ q ∧ q ≤ 1000000000 := fun q hq => by have := a6 q hq; omega
  obtain ⟨b1, b2⟩ := addAll_spec ho (G.take i) l h3 hlt
  refine ⟨ho, by omega, a1, by omega, rinB_no.2 a3, fun h => rinB_iff.2 (a2 h), a5, rinB_no.2 (fun h => ?_), ?_, a0⟩
  · rcases (b2 G[i]).1 h with c | c
    · have := a6 _ c; omega
    · exact a3 c
  · rw [List.take_succ_eq_append_getElem hi, addAll_snoc]
/-- Add at a missing number. -/
theorem step_add {l : List S45} {o : Int} {G : List Int} {i : Nat} {g : Int} {m : List S45} (h : Step l o G i g m) (hm : okV m = true) : addR m o g = if totL (addL m o g) > 64 then ([], false, 10) else (addL m o g, true, 0) := by
  rw [addR_ok ⟨hm, h.ran, h.num⟩, if_neg (by rw [h.nin]; simp)]
/-- Behind the loop: the origin's one interval, and nothing is missing. -/
theorem gaps_end {l : List S45} {o : Int} {G : List Int} (hV : okV l = true) (hG : Gaps l o G) (hl : G.length < 200) (hm : okV (addAll l o G) = true) : missR (addAll l o G) o 5 = [] ∧ ∀ s ∈ addAll l o G, s.f0 = o → s.f1 = [⟨1, topR 0 (OfL l o)⟩] := by
  obtain ⟨h1, h2, h3⟩ := okV_len hV
  obtain ⟨m1, m2, m3⟩ := okV_len hm
  by_cases hne : OfL l o = []
  · have hg := hG.nil hne
    subst hg
    have hall : addAll l o [] = l := rfl
    rw [hall]
    refine ⟨?_, fun s hs he => ?_⟩
    · unfold missR
      rw [if_pos hV, hne]
      rfl
    · have h4 := OfL_mem h3 s hs
      rw [he, hne] at h4
      obtain ⟨i, hi, hie⟩ := List.getElem_of_mem hs
      have := no_at.WS_ne h3 i hi
      rw [hie] at this
      exact absurd h4.symm this
  · obtain ⟨stop, k1, k2, k3⟩ := hG.gap hne
    obtain rfl := k3 hl
    have hr : 0 ≤ o ∧ o ≤ 59 := by
      by_cases ho : 0 ≤ o ∧ o ≤ 59
      · exact ho
      · refine absurd ?_ hne
        by_cases h : o ≤ -1
        · exact OfL_lo h3 h
        · exact OfL_hi h3 (by omega)
    have h1i := addAll_one hr h3 hne k1
    refine ⟨?_, fun s hs he => ?_⟩
    · unfold missR missC
      rw [if_pos hm, h1i]
      simp [missL, fillM]
    · have h4 := OfL_mem m3 s hs
      rw [he, h1i] at h4
      exact h4.symm
end Go.Proofs.Ytjibgfihfbdcaaa.Pl
