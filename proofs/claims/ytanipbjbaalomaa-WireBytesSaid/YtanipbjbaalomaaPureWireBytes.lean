/- WireBytes holds. No condition. -/
import Derived.Test.YtanipbjbaalomaaPWirex9
import Derived.Test.YtanipbjbaalomaaWireUp
namespace Go.Proofs.Ytanipbjbaalomaa.Pure
open Go.RowKit Go.Proofs.Ytanipbjbaalomaa.PWire Go.Proofs.YtanipbjbaalomaaW.PrintWords Go.Proofs.YtanipbjbaalomaaW.PrintLast
set_option linter.unusedVariables false

/-- The bytes read behind b are those that PutBytes wrote there. -/
theorem byt_at (b y x : List Int) (h : y.length ≤ 4000) : Pl.byt (b ++ Pl.wn y.length ++ y ++ x) (b.length : Int) = (y, ((b ++ Pl.wn y.length ++ y).length : Int), 0) := by
  unfold Pl.byt
  have := Pl.num_wn b (y ++ x) (y.length : Int) (Pl.len_inNum h)
  rw [← List.append_assoc] at this
  rw [this]
  simp only [if_true]
  rw [if_neg (by omega), if_neg (by simp only [List.length_append]; omega)]
  have e1 : ((b.length : Int) + ((Pl.wn y.length).length : Int)).toNat = (b ++ Pl.wn y.length).length := by rw [List.length_append]; omega
  rw [e1, List.append_assoc (b ++ Pl.wn y.length), List.drop_left, Int.toNat_natCast, List.take_left]
  simp only [List.length_append, Prod.mk.injEq, true_and, and_true]
  omega
theorem byt_ok {l y : List Int} {a e : Int} (hB : Pl.isB l = true) (h : Pl.byt l a = (y, e, 0)) : 0 ≤ a ∧ a < e ∧ e ≤ l.length ∧ y.length ≤ 4000 ∧ (l.take e.toNat).drop a.toNat = Pl.wn y.length ++ y := by
  obtain ⟨n, m, r, hn⟩ : ∃ n e r, Pl.num l a = (n, e, r) := ⟨_, _, _, rfl⟩
  unfold Pl.byt at h
  rw [hn] at h
  simp only at h
  by_cases hr : r = 0
  · subst hr
    obtain ⟨g1, g2, g3, g4, g5, g6⟩ := Pl.num_ok hB hn
    have g7 := Pl.wn_len g3
    rw [if_pos rfl] at h
    by_cases h1 : n < 0 ∨ 4000 < n
    · rw [if_pos h1] at h; simp at h
    · rw [if_neg h1] at h
      by_cases h2 : (l.length : Int) - m < n
      · rw [if_pos h2] at h; simp at h
      · rw [if_neg h2] at h
        simp only [Prod.mk.injEq, and_true] at h
        obtain ⟨hy, he⟩ := h
        have hyl : (y.length : Int) = n := by rw [← hy, List.length_take, List.length_drop]; omega
        refine ⟨g1, by omega, by omega, by omega, ?_⟩
        rw [hyl, show e = a + ((Pl.wn n).length + n) by omega, Pl.take_drop_mid l g1 (by omega)]
        have e2 : (((Pl.wn n).length : Int) + n).toNat = (Pl.wn n).length + n.toNat := by omega
        rw [e2, List.take_add, g6, List.drop_drop, ← hy, g4, show (a + ((Pl.wn n).length : Int)).toNat = a.toNat + (Pl.wn n).length by omega]
  · rw [if_neg hr] at h; simp at h; exact absurd h.2.2 hr
theorem WireBytes (b c x : List Int) (a : Int)
    (hb : b.length ≤ maxLen ∧ ∀ n ∈ b, (Lit.int .u8 n).wf = true) (hc : c.length ≤ maxLen ∧ ∀ n ∈ c, (Lit.int .u8 n).wf = true) (hx : x.length ≤ maxLen ∧ ∀ n ∈ x, (Lit.int .u8 n).wf = true) (ha : (Lit.int .i64 a).wf = true) : ∃ k, slotmeshlaw04_WireBytes.f k b c x a = some true := by
  refine ⟨100000, ?_⟩
  have hbB := Pl.isB_wf hb.2
  have hcB := Pl.isB_wf hc.2
  have hxB := Pl.isB_wf hx.2
  unfold slotmeshlaw04_WireBytes.f
  rw [Pl.head_cl (by omega), Pl.few_cl]
  simp only [Option.bind_some]
  have T : ∀ y, (y = false → b.length ≤ 6000 ∧ c.length ≤ 6000 ∧ x.length ≤ 6000) → slotmeshlaw04_WireBytes.j0 100000 b c x a true y = some true := by
    intro y hy
    simp only [slotmeshlaw04_WireBytes.j0]
    cases y with
    | true => simp
    | false =>
      obtain ⟨hlb, hlc, hlx⟩ := hy rfl
      rw [if_neg (by simp), Pl.putBytes_cl (by omega) (by omega)]
      simp only [Option.bind_some]
      by_cases h4 : c.length ≤ 4000
      · have hp : Pl.putByt b c = (b ++ Pl.wn c.length ++ c, 0) := by unfold Pl.putByt; rw [if_pos h4]
        have hin := Pl.len_inNum h4
        have hw := Pl.wn_len hin
        rw [hp, if_neg (by omega)]
        simp only [if_true]
        rw [decide_eq_false (by simp only [List.length_append]; omega)]
        simp only [slotmeshlaw04_WireBytes.j1, List.replicate_zero, Option.bind_some, List.nil_append, List.length_nil]
        rw [if_neg (by simp), if_pos (by omega), if_pos (by simp only [List.length_append]; omega), if_pos (by simp only [List.length_append]; omega)]
        have hB2 : Pl.isB (b ++ Pl.wn c.length ++ c ++ x) = true := by rw [Pl.isB_append, Pl.isB_append, Pl.isB_append, hbB, Pl.wn_isB, hxB, hcB]; rfl
        rw [Pl.bytes_cl (by omega) hB2 (by simp only [List.length_append]; omega), byt_at b c x h4]
        simp only [Option.bind_some, if_true]
        rw [Pl.same_all (by omega) (by omega)]
        simp only [Option.bind_some, if_true, decide_true]
        rw [if_pos (by omega), if_pos (by simp only [List.length_append]; omega), Int.toNat_natCast, List.append_assoc, List.take_left, Pl.same_all (by omega) (by omega), Pl.bytes_cl (by omega) hbB (by omega)]
        simp only [Option.bind_some, decide_true]
        obtain ⟨z, e, r, hr⟩ : ∃ m e r, Pl.byt b a = (m, e, r) := ⟨_, _, _, rfl⟩
        rw [hr]
        simp only
        by_cases hr0 : r = 0
        · subst hr0
          obtain ⟨g1, g2, g3, g4, g5⟩ := byt_ok hbB hr
          have g7 := Pl.wn_len (Pl.len_inNum g4)
          rw [if_pos rfl, if_neg (by omega), if_neg (by omega), decide_eq_false (by omega)]
          simp only [slotmeshlaw04_WireBytes.j2]
          rw [if_neg (by simp), Pl.putBytes_cl (by omega) (by simp)]
          simp only [Option.bind_some]
          unfold Pl.putByt
          rw [if_pos g4]
          simp only [List.nil_append, if_true]
          rw [if_pos g1, if_pos (by omega), if_pos (by omega), g5, Pl.same_all (by simp only [List.length_append]; omega) (by simp only [List.length_append]; omega)]
          simp
        · rw [if_neg hr0]
      · have hp : Pl.putByt b c = ([], 2) := by unfold Pl.putByt; rw [if_neg h4]
        rw [hp, if_pos (by omega)]
        simp
  by_cases hl : b.length ≤ 6000 ∧ c.length ≤ 6000
  · rw [if_pos (by simpa using hl)]
    exact T _ (fun h => by have := of_decide_eq_false h; omega)
  · rw [if_neg (by simpa using hl)]
    exact T true (by simp)

end Go.Proofs.Ytanipbjbaalomaa.Pure
