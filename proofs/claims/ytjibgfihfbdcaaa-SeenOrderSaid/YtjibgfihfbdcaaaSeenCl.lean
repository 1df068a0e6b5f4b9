/- Closed forms of what the package seen computes: the printed plain functions, told without rounds. -/
import Derived.Test.YtjibgfihfbdcaaaPSeenx8
import Derived.Test.YtjibgfihfbdcaaaSeenPl
namespace Go.Proofs.Ytjibgfihfbdcaaa.Pl
open Go.RowKit Go.Proofs.Ytjibgfihfbdcaaa.PSeen Go.Proofs.YtjibgfihfbdcaaaW.PrintWords
set_option linter.unusedVariables false
set_option linter.unusedSimpArgs false
theorem w64 {x : Int} (h1 : -9223372036854775808 ≤ x) (h2 : x ≤ 9223372036854775807) : wrap64 x = x := by unfold wrap64; omega
theorem rd45 {l : List S45} {i : Nat} (h : i < l.length) : rd_T45 l (i : Int) = l[i] := by
  unfold rd_T45
  rw [Int.toNat_natCast, List.getD_eq_getElem?_getD, List.getElem?_eq_getElem h]
  rfl
theorem rd47 {l : List S47} {i : Nat} (h : i < l.length) : rd_T47 l (i : Int) = l[i] := by
  unfold rd_T47
  rw [Int.toNat_natCast, List.getD_eq_getElem?_getD, List.getElem?_eq_getElem h]
  rfl
theorem up {i : Nat} (h : i ≤ 9223372036854775806) : wrap64 ((i : Int) + 1) = ((i + 1 : Nat) : Int) := by rw [w64 (by omega) (by omega)]; omega
theorem pos_k {k d : Nat} (h : d < k) : ∃ m, k = m + 1 := ⟨k - 1, by omega⟩
theorem many_l0 (l : List S45) : ∀ (d i k s : Nat), i + d = l.length → d < k → s + totL (l.drop i) ≤ 9223372036854775807 → l.length ≤ 9223372036854775806 → seen_many.l0 k (s : Int) l (l.length : Int) (i : Int) = some ((s + totL (l.drop i) : Nat) : Int)
  | 0, i, k, s, hi, hk, hb, hl => by
    obtain ⟨k, rfl⟩ := pos_k hk
    simp only [seen_many.l0]
    rw [if_neg (by omega), List.drop_eq_nil_of_le (by omega)]
    simp [totL]
  | d + 1, i, k, s, hi, hk, hb, hl => by
    obtain ⟨k, rfl⟩ := pos_k hk
    have hlt : i < l.length := by omega
    have hd := List.drop_eq_getElem_cons hlt
    rw [hd, totL_cons] at hb
    simp only [seen_many.l0]
    rw [if_pos (by omega), if_pos (by omega), if_pos (by omega), rd45 hlt, w64 (by omega) (by omega), up (by omega),
      show (s : Int) + (l[i].f1.length : Int) = ((s + l[i].f1.length : Nat) : Int) by omega, many_l0 l d (i + 1) k (s + l[i].f1.length) (by omega) (by omega) (by omega) hl, hd, totL_cons]
    congr 2
    omega
theorem many_cl {l : List S45} {k : Nat} (hk : l.length < k) (hb : totL l ≤ 9223372036854775807) (hl : l.length ≤ 9223372036854775806) : seen_many.f k l = some (totL l : Int) := by
  have := many_l0 l l.length 0 k 0 (by omega) hk (by simpa using hb) hl
  unfold seen_many.f
  simpa using this
theorem okRs_some : ∀ (l : List S47) (h : Int), 0 ≤ h → h ≤ 1000000000 → (okRs (some h) l = true ↔ WR h l)
  | [], h, _, _ => by simp [okRs, WR]
  | x :: xs, h, h0, h1 => by
    rw [okRs, WR, Bool.and_eq_true]
    have hw := w64 (x := h + 1) (by omega) (by omega)
    simp only [okR1, Bool.and_eq_true, decide_eq_true_eq, hw]
    constructor
    · rintro ⟨⟨⟨a, b⟩, c, d⟩, e⟩
      exact ⟨d, b, c, (okRs_some xs x.f1 (by omega) (by omega)).1 e⟩
    · rintro ⟨d, b, c, e⟩
      exact ⟨⟨⟨by omega, b⟩, c, d⟩, (okRs_some xs x.f1 (by omega) (by omega)).2 e⟩
theorem okRs_none : ∀ (l : List S47), (okRs none l = true ↔ WR (-1) l)
  | [] => by simp [okRs, WR]
  | x :: xs => by
    rw [okRs, WR, Bool.and_eq_true]
    simp only [okR1, Bool.and_eq_true, decide_eq_true_eq, and_true]
    constructor
    · rintro ⟨⟨⟨a, b⟩, c⟩, e⟩
      exact ⟨by omega, b, c, (okRs_some xs x.f1 (by omega) (by omega)).1 e⟩
    · rintro ⟨d, b, c, e⟩
      exact ⟨⟨⟨by omega, b⟩, c⟩, (okRs_some xs x.f1 (by omega) (by omega)).2 e⟩
theorem setsOk_iff (l : List S47) : setsOk l = true ↔ l ≠ [] ∧ WR (-1) l := by
  unfold setsOk
  rw [Bool.and_eq_true, okRs_none, decide_eq_true_eq]
  cases l <;> simp <;> omega
theorem okSs_some : ∀ (l : List S45) (h : Int), -1 ≤ h → (okSs (some h) l = true ↔ WS h l)
  | [], h, _ => by simp [okSs, WS]
  | x :: xs, h, h0 => by
    rw [okSs, WS, Bool.and_eq_true]
    simp only [okS1, Bool.and_eq_true, decide_eq_true_eq, setsOk_iff]
    constructor
    · rintro ⟨⟨⟨a, b⟩, ⟨c, d⟩, e⟩, f⟩
      exact ⟨e, b, c, d, (okSs_some xs x.f0 (by omega)).1 f⟩
    · rintro ⟨e, b, c, d, f⟩
      exact ⟨⟨⟨by omega, b⟩, ⟨c, d⟩, e⟩, (okSs_some xs x.f0 (by omega)).2 f⟩
theorem okSs_none : ∀ (l : List S45), (okSs none l = true ↔ WS (-1) l)
  | [] => by simp [okSs, WS]
  | x :: xs => by
    rw [okSs, WS, Bool.and_eq_true]
    simp only [okS1, Bool.and_eq_true, decide_eq_true_eq, setsOk_iff, and_true]
    constructor
    · rintro ⟨⟨⟨a, b⟩, c, d⟩, f⟩
      exact ⟨by omega, b, c, d, (okSs_some xs x.f0 (by omega)).1 f⟩
    · rintro ⟨e, b, c, d, f⟩
      exact ⟨⟨⟨by omega, b⟩, c, d⟩, (okSs_some xs x.f0 (by omega)).2 f⟩
/-- Whether lists are valid. -/
def okV (l : List S45) : Bool := decide (totL l ≤ 64) && okSs none l
theorem okV_iff {l : List S45} : okV l = true ↔ totL l ≤ 64 ∧ WS (-1) l := by
  unfold okV
  rw [Bool.and_eq_true, decide_eq_true_eq, okSs_none]
theorem WS_len : ∀ {l : List S45} {b : Int}, WS b l → l.length ≤ totL l
  | [], _, _ => by simp [totL]
  | x :: xs, b, ⟨h1, h2, h3, h4, h5⟩ => by
    have := WS_len h5
    rw [totL_cons]
    have : 0 < x.f1.length := List.length_pos_iff.2 h3
    simp only [List.length_cons]
    omega
theorem okV_len {l : List S45} (h : okV l = true) : l.length ≤ 64 ∧ totL l ≤ 64 ∧ WS (-1) l := by
  obtain ⟨h1, h2⟩ := okV_iff.1 h
  have := WS_len h2
  exact ⟨by omega, h1, h2⟩
theorem valid_cl {l : List S45} {k : Nat} (hk : l.length < k) (hb : totL l ≤ 9223372036854775807) (hl : l.length ≤ 9223372036854775806) : seen_Valid.f k l = some (okV l) := by
  unfold seen_Valid.f
  rw [many_cl hk hb hl]
  simp only [Option.bind_some, okV]
  congr 2
  exact decide_eq_decide.2 (by omega)
/-- The place of an origin. -/
theorem getD45 {l : List S45} {i : Nat} (h : i < l.length) : l.getD i z45 = l[i] := by rw [List.getD_eq_getElem?_getD, List.getElem?_eq_getElem h]; rfl
theorem WS_at : ∀ {l : List S45} {b : Int}, WS b l → ∀ (i : Nat) (h : i < l.length), b < l[i].f0 ∧ l[i].f0 ≤ 59
  | x :: xs, b, ⟨h1, h2, h3, h4, h5⟩, 0, h => ⟨h1, h2⟩
  | x :: xs, b, ⟨h1, h2, h3, h4, h5⟩, i + 1, h => by
    have hl : i < xs.length := by simpa using h
    obtain ⟨a, c⟩ := WS_at h5 i hl
    simp only [List.getElem_cons_succ]
    exact ⟨by omega, c⟩
theorem WS_lt : ∀ {l : List S45} {b : Int}, WS b l → ∀ (i j : Nat) (hi : i < j) (h : j < l.length), l[i].f0 < l[j].f0
  | x :: xs, b, ⟨h1, h2, h3, h4, h5⟩, 0, j + 1, hij, h => by
    have hl : j < xs.length := by simpa using h
    simp only [List.getElem_cons_succ, List.getElem_cons_zero]
    exact (WS_at h5 j hl).1
  | x :: xs, b, ⟨h1, h2, h3, h4, h5⟩, i + 1, j + 1, hij, h => by
    have hl : j < xs.length := by simpa using h
    simp only [List.getElem_cons_succ]
    exact WS_lt h5 i j (by omega) hl
theorem bsL_spec {l : List S45} {o : Int} (h : WS (-1) l) (ho : 0 ≤ o ∧ o ≤ 59) : ∀ (m i j : Nat), i ≤ j → j ≤ l.length → j - i ≤ m → (∀ q (hq : q < l.length), q < i → l[q].f0 < o) → (∀ q (hq : q < l.length), j ≤ q → o ≤ l[q].f0) →
    bsL m l o i j ≤ l.length ∧ (∀ q (hq : q < l.length), q < bsL m l o i j → l[q].f0 < o) ∧ (∀ q (hq : q < l.length), bsL m l o i j ≤ q → o ≤ l[q].f0)
  | 0, i, j, hij, hj, hm, h1, h2 => by
    rw [bsL]
    exact ⟨by omega, h1, fun q hq hq2 => h2 q hq (by omega)⟩
  | m + 1, i, j, hij, hj, hm, h1, h2 => by
    rw [bsL]
    by_cases hlt : i < j
    · rw [if_pos hlt]
      have hmid : (i + j) / 2 < l.length := by omega
      rw [getD45 hmid]
      obtain ⟨a, b⟩ := WS_at h _ hmid
      rw [w64 (by omega) (by omega)]
      by_cases hc : l[(i + j) / 2].f0 - o < 0
      · rw [if_pos hc]
        refine bsL_spec h ho m _ j (by omega) hj (by omega) (fun q hq hq2 => ?_) h2
        rcases Nat.lt_or_ge q ((i + j) / 2) with g | g
        · have := WS_lt h q _ g hmid; omega
        · have : q = (i + j) / 2 := by omega
          subst this
          omega
      · rw [if_neg hc]
        refine bsL_spec h ho m i _ (by omega) (by omega) (by omega) h1 (fun q hq hq2 => ?_)
        rcases Nat.lt_or_ge ((i + j) / 2) q with g | g
        · have := WS_lt h _ q g hq; omega
        · have : q = (i + j) / 2 := by omega
          subst this
          omega
    · rw [if_neg hlt]
      exact ⟨by omega, h1, fun q hq hq2 => h2 q hq (by omega)⟩
theorem bsI_spec {l : List S45} {o : Int} (h : WS (-1) l) (ho : 0 ≤ o ∧ o ≤ 59) : bsI l o ≤ l.length ∧ (∀ q (hq : q < l.length), q < bsI l o → l[q].f0 < o) ∧ (∀ q (hq : q < l.length), bsI l o ≤ q → o ≤ l[q].f0) :=
  bsL_spec h ho l.length 0 l.length (by omega) (by omega) (by omega) (fun q hq h0 => by omega) (fun q hq h0 => by omega)
theorem OfL_at : ∀ {l : List S45} {b : Int}, WS b l → ∀ (i : Nat) (h : i < l.length), OfL l l[i].f0 = l[i].f1
  | x :: xs, b, ⟨h1, h2, h3, h4, h5⟩, 0, h => by simp only [List.getElem_cons_zero]; rw [OfL, if_pos rfl]
  | x :: xs, b, ⟨h1, h2, h3, h4, h5⟩, i + 1, h => by
    have hl : i < xs.length := by simpa using h
    simp only [List.getElem_cons_succ]
    have := (WS_at h5 i hl).1
    rw [OfL, if_neg (by omega)]
    exact OfL_at h5 i hl
theorem OfL_none : ∀ {l : List S45} {o : Int}, (∀ (i : Nat) (h : i < l.length), l[i].f0 ≠ o) → OfL l o = []
  | [], _, _ => rfl
  | x :: xs, o, h => by
    rw [OfL, if_neg (show ¬ x.f0 = o from h 0 (Nat.zero_lt_succ _))]
    exact OfL_none (fun i hi => h (i + 1) (by simpa using hi))
/-- Whether the place holds the origin. -/
def foundB (l : List S45) (o : Int) : Bool := decide (bsI l o < l.length) && decide (wrap64 ((l.getD (bsI l o) z45).f0 - o) = 0)
theorem wr0 {a o : Int} (ha : 0 ≤ a ∧ a ≤ 59) (ho : -9223372036854775808 ≤ o ∧ o ≤ 9223372036854775807) : wrap64 (a - o) = 0 ↔ a = o := by
  unfold wrap64
  omega
theorem found_yes {l : List S45} {o : Int} (h : WS (-1) l) (ho : -9223372036854775808 ≤ o ∧ o ≤ 9223372036854775807) (hf : foundB l o = true) : ∃ hi : bsI l o < l.length, l[bsI l o].f0 = o ∧ l[bsI l o].f1 = OfL l o := by
  unfold foundB at hf
  rw [Bool.and_eq_true, decide_eq_true_eq, decide_eq_true_eq] at hf
  obtain ⟨h1, h2⟩ := hf
  have ha := WS_at h _ h1
  rw [getD45 h1, wr0 ⟨by omega, by omega⟩ ho] at h2
  exact ⟨h1, h2, by rw [← OfL_at h _ h1, h2]⟩
theorem found_no {l : List S45} {o : Int} (h : WS (-1) l) (ho : -9223372036854775808 ≤ o ∧ o ≤ 9223372036854775807) (hf : foundB l o = false) : OfL l o = [] := by
  by_cases hr : 0 ≤ o ∧ o ≤ 59
  · obtain ⟨b1, b2, b3⟩ := bsI_spec h hr
    refine OfL_none (fun i hi he => ?_)
    have hge : ¬ i < bsI l o := fun hlt => by have := b2 i hi hlt; omega
    have hlt : bsI l o < l.length := by omega
    have h2 := b3 _ hlt (Nat.le_refl _)
    have heq : l[bsI l o].f0 = o := by
      rcases Nat.lt_or_ge (bsI l o) i with g | g
      · have := WS_lt h _ i g hi; omega
      · have : i = bsI l o := by omega
        subst this
        exact he
    have ha := WS_at h _ hlt
    unfold foundB at hf
    rw [decide_eq_true hlt, Bool.true_and, decide_eq_false_iff_not, getD45 hlt, wr0 ⟨by omega, by omega⟩ ho] at hf
    exact hf heq
  · refine OfL_none (fun i hi he => ?_)
    have := WS_at h i hi
    omega
theorem find_cl {l : List S45} (o : Int) (hl : l.length ≤ 1000000000000) : seen_find.f l o = some ((bsI l o : Int), foundB l o) := by
  unfold seen_find.f foundB
  rw [if_pos hl]
theorem fdx_rin (l : List S47) (n : Int) : decide (0 ≤ fdx (inR n) l) = rinB l n := by
  rw [Bool.eq_iff_iff, decide_eq_true_eq]
  unfold fdx rinB inR
  rw [List.any_eq_true]
  constructor
  · intro h
    split at h
    · rename_i hlt
      obtain ⟨x, hx, hp⟩ := List.findIdx_lt_length.1 hlt
      exact ⟨x, hx, hp⟩
    · omega
  · intro h
    rw [if_pos (List.findIdx_lt_length.2 h)]
    omega
theorem holds_cl (l : List S47) (n : Int) : seen_holds.f l n = some (rinB l n) := by
  unfold seen_holds.f
  rw [fdx_rin]
theorem rinB_nil (n : Int) : rinB [] n = false := rfl
theorem has_cl {l : List S45} {o n : Int} {k : Nat} (hk : l.length < k) (hb : totL l ≤ 9223372036854775807) (hl : l.length ≤ 9223372036854775806) (ho : -9223372036854775808 ≤ o ∧ o ≤ 9223372036854775807) : seen_Has.f k l o n = some (okV l && rinB (OfL l o) n) := by
  unfold seen_Has.f
  rw [valid_cl hk hb hl]
  simp only [Option.bind_some]
  cases hv : okV l with
  | false => simp
  | true =>
    obtain ⟨h1, h2, h3⟩ := okV_len hv
    rw [if_pos rfl, find_cl o (by omega)]
    simp only [Option.bind_some, Bool.true_and]
    cases hf : foundB l o with
    | true =>
      obtain ⟨hi, e1, e2⟩ := found_yes h3 ho hf
      rw [if_pos rfl, if_pos (by omega), if_pos (by omega), rd45 hi, e2, holds_cl]
      rfl
    | false =>
      rw [if_neg (by simp), found_no h3 ho hf, rinB_nil]
/-- The library's join, told. -/
theorem rdlast (A : List S47) (c : S47) : rd_T47 (A ++ [c]) (A.length : Int) = c := by
  rw [rd47 (by simp)]
  simp
theorem join_l0 (l : List S47) : ∀ (d i k : Nat) (A : List S47) (c : S47), i + d = l.length → d < k → Srt 1 (l.drop i) → 1 ≤ c.f0 → c.f1 ≤ 1000000000 → 1 ≤ c.f1 → A.length + d ≤ 1000000 → l.length ≤ 1000000 →
    seen_join.l0 k (A ++ [c]) l (l.length : Int) (i : Int) = some (A ++ jn c (l.drop i))
  | 0, i, k, A, c, hi, hk, hs, h1, h2, h3, hA, hl => by
    obtain ⟨k, rfl⟩ := pos_k hk
    simp only [seen_join.l0]
    rw [if_neg (by omega), List.drop_eq_nil_of_le (by omega), jn]
  | d + 1, i, k, A, c, hi, hk, hs, h1, h2, h3, hA, hl => by
    obtain ⟨k, rfl⟩ := pos_k hk
    have hlt : i < l.length := by omega
    have hd := List.drop_eq_getElem_cons hlt
    rw [hd] at hs
    obtain ⟨s1, s2, s3, s4⟩ := hs
    have hlen : (((A ++ [c]).length : Nat) : Int) - 1 = (A.length : Int) := by simp
    have hw : wrap64 (((A ++ [c]).length : Int) - 1) = (A.length : Int) := by rw [hlen]; exact w64 (by omega) (by omega)
    have hm : mx c.f1 l[i].f1 ≤ 1000000000 ∧ 1 ≤ mx c.f1 l[i].f1 := by unfold mx; split <;> omega
    simp only [seen_join.l0]
    rw [hw, if_pos (by omega), if_pos (by omega), if_pos (by omega), if_pos (by omega), if_pos (by omega), if_pos (by simp only [List.length_append, List.length_singleton]; omega), rdlast, rd47 hlt, up (by omega), w64 (x := c.f1 + 1) (by omega) (by omega), hd, jn]
    by_cases hc : l[i].f0 ≤ c.f1 + 1
    · rw [if_pos hc, if_pos hc, Int.toNat_natCast, show (A ++ [c]).set A.length ⟨c.f0, mx c.f1 l[i].f1⟩ = A ++ [⟨c.f0, mx c.f1 l[i].f1⟩] by simp]
      exact join_l0 l d (i + 1) k A _ (by omega) (by omega) (s4.mono (by omega)) h1 hm.1 hm.2 (by omega) hl
    · rw [if_neg hc, if_neg hc, if_pos (by simp; omega)]
      have := join_l0 l d (i + 1) k (A ++ [c]) l[i] (by omega) (by omega) (s4.mono (by omega)) s1 s3 (by omega) (by simp; omega) hl
      rw [List.append_assoc] at this
      simpa using this
theorem join_cl {l : List S47} {k : Nat} (hk : l.length < k) (hs : Srt 1 l) (hl : l.length ≤ 1000) : seen_join.f k l = some (joinC l) := by
  unfold seen_join.f
  obtain ⟨k, rfl⟩ := pos_k hk
  cases l with
  | nil => simp [seen_join.l0, joinC]
  | cons x xs =>
    obtain ⟨s1, s2, s3, s4⟩ := hs
    have hlt : (0 : Int) < ((x :: xs).length : Int) := by simp only [List.length_cons]; omega
    simp only [seen_join.l0]
    have e0 : wrap64 ((([] : List S47).length : Int) - 1) = -1 := by
      show wrap64 (((0 : Nat) : Int) - 1) = -1
      rw [w64 (by omega) (by omega)]
      rfl
    have e1 : rd_T47 (x :: xs) 0 = x := rfl
    rw [e0, if_pos hlt, if_pos (by omega), if_pos hlt, if_neg (by omega), if_pos (by simp), e1, w64 (by omega) (by omega)]
    have := join_l0 (x :: xs) xs.length 1 k [] x (by simp only [List.length_cons]; omega) (by simp only [List.length_cons] at hk; omega) (by simpa using s4.mono s1) s1 s3 (by omega) (by simp only [List.length_nil, List.length_cons] at hl ⊢; omega) (by omega)
    simpa [joinC] using this
/-- What Add comes to, told. -/
def addR (l : List S45) (o n : Int) : List S45 × Bool × Int :=
  if okV l = true ∧ (0 ≤ o ∧ o ≤ 59) ∧ (1 ≤ n ∧ n ≤ 1000000000) then (if rinB (OfL l o) n = true then (l, false, 0) else if totL (addL l o n) > 64 then ([], false, 10) else (addL l o n, true, 0)) else ([], false, 1)
theorem take_gt : ∀ (l : List S47) (n : Int), l.take (l.findIdx (gtR n)) ++ [⟨n, n⟩] ++ l.drop (l.findIdx (gtR n)) = insB n l
  | [], n => rfl
  | x :: xs, n => by
    rw [List.findIdx_cons, insB]
    by_cases h : x.f0 > n
    · rw [if_pos h, show gtR n x = true from decide_eq_true h]
      rfl
    · rw [if_neg h, show gtR n x = false from decide_eq_false h, ← take_gt xs n]
      rfl
theorem addAt_cl (l : List S47) (n : Int) : addAt l n = l.findIdx (gtR n) := by
  unfold addAt fdx
  have := List.findIdx_le_length (p := gtR n) (xs := l)
  by_cases h : l.findIdx (gtR n) < l.length
  · rw [if_pos h, if_neg (by omega), Int.toNat_natCast]
  · rw [if_neg h, if_pos (by omega)]
    omega
theorem putS_set : ∀ {l : List S45} {b : Int}, WS b l → ∀ (i : Nat) (h : i < l.length) (v : List S47), l.set i ⟨l[i].f0, v⟩ = putS l[i].f0 v l
  | x :: xs, b, ⟨h1, h2, h3, h4, h5⟩, 0, h, v => by
    simp only [List.getElem_cons_zero, List.set_cons_zero]
    rw [putS, if_neg (by omega), if_pos rfl]
  | x :: xs, b, ⟨h1, h2, h3, h4, h5⟩, i + 1, h, v => by
    have hl : i < xs.length := by simpa using h
    simp only [List.getElem_cons_succ, List.set_cons_succ]
    have := (WS_at h5 i hl).1
    rw [putS, if_pos this, putS_set h5 i hl v]
theorem putS_ins {o : Int} {v : List S47} : ∀ {l : List S45} (i : Nat), i ≤ l.length → (∀ q (hq : q < l.length), q < i → l[q].f0 < o) → (∀ q (hq : q < l.length), i ≤ q → o < l[q].f0) → l.take i ++ [⟨o, v⟩] ++ l.drop i = putS o v l
  | [], i, hi, _, _ => by
    obtain rfl : i = 0 := by simpa using hi
    rfl
  | x :: xs, 0, hi, h1, h2 => by
    have := h2 0 (by simp) (by omega)
    simp only [List.getElem_cons_zero] at this
    rw [putS, if_neg (by omega), if_neg (by omega)]
    rfl
  | x :: xs, i + 1, hi, h1, h2 => by
    have := h1 0 (by simp) (by omega)
    simp only [List.getElem_cons_zero] at this
    rw [putS, if_pos this, ← putS_ins (l := xs) i (by simpa using hi) (fun q hq hq2 => by have := h1 (q + 1) (by simpa using hq) (by omega); simpa using this) (fun q hq hq2 => by have := h2 (q + 1) (by simpa using hq) (by omega); simpa using this)]
    rfl
theorem no_at {l : List S45} {o : Int} (h : WS (-1) l) (ho : 0 ≤ o ∧ o ≤ 59) (hf : foundB l o = false) : ∀ q (hq : q < l.length), bsI l o ≤ q → o < l[q].f0 := fun q hq hle => by
  obtain ⟨b1, b2, b3⟩ := bsI_spec h ho
  have h1 := b3 q hq hle
  have h2 : l[q].f0 ≠ o := fun he => by
    have hn := found_no h ⟨by omega, by omega⟩ hf
    rw [← he, OfL_at h q hq] at hn
    have h3 := OfL_at h q hq
    have := WS_ne h q hq
    exact this hn
  omega
where
  WS_ne : ∀ {l : List S45} {b : Int}, WS b l → ∀ (i : Nat) (h : i < l.length), l[i].f1 ≠ []
    | x :: xs, b, ⟨h1, h2, h3, h4, h5⟩, 0, h => h3
    | x :: xs, b, ⟨h1, h2, h3, h4, h5⟩, i + 1, h => by
      have hl : i < xs.length := by simpa using h
      simp only [List.getElem_cons_succ]
      exact WS_ne h5 i hl
/-- The lists after the place for the origin was made; its intervals; the lists after these were replaced. -/
theorem out_cl {l : List S45} {o : Int} (h : WS (-1) l) (ho : 0 ≤ o ∧ o ≤ 59) : addSets l o = OfL l o ∧ ((foundB l o = true ∨ True) → ∀ s, (addOut l o).set (bsI l o) ⟨((addOut l o).getD (bsI l o) z45).f0, s⟩ = putS o s l) ∧ (foundB l o = true → addOut l o = l) := by
  have ho2 : -9223372036854775808 ≤ o ∧ o ≤ 9223372036854775807 := ⟨by omega, by omega⟩
  cases hf : foundB l o with
  | true =>
    obtain ⟨hi, e1, e2⟩ := found_yes h ho2 hf
    have hO : addOut l o = l := by unfold addOut; exact if_pos hf
    refine ⟨?_, fun _ s => ?_, fun _ => hO⟩
    · unfold addSets
      rw [hO, getD45 hi, e2]
    · rw [hO, getD45 hi, putS_set h _ hi, e1]
  | false =>
    obtain ⟨b1, b2, b3⟩ := bsI_spec h ho
    have hn := no_at h ho hf
    have hO : addOut l o = l.take (bsI l o) ++ [⟨o, []⟩] ++ l.drop (bsI l o) := by unfold addOut; exact if_neg (by rw [show (decide (bsI l o < l.length) && decide (wrap64 ((l.getD (bsI l o) z45).f0 - o) = 0)) = foundB l o from rfl, hf]; simp)
    have hlt : (l.take (bsI l o)).length = bsI l o := by rw [List.length_take]; omega
    have hg : (addOut l o).getD (bsI l o) z45 = ⟨o, []⟩ := by
      rw [hO, List.getD_eq_getElem?_getD, List.append_assoc, List.getElem?_append_right (by omega), hlt, Nat.sub_self]
      rfl
    refine ⟨?_, fun _ s => ?_, fun hh => by cases hh⟩
    · unfold addSets
      rw [hg, found_no h ho2 hf]
    · rw [hg, ← putS_ins (bsI l o) b1 b2 hn, hO]
      simp only
      rw [List.append_assoc, List.set_append_right _ _ (by omega), hlt, Nat.sub_self, List.append_assoc]
      rfl
theorem WR_len {l : List S45} {b : Int} (o : Int) (h : WS b l) : (OfL l o).length ≤ totL l := by
  have := totL_putS o [] h
  simp only [List.length_nil] at this
  omega
theorem add_cl {l : List S45} {o n : Int} {k : Nat} (hk : l.length + 1000 < k) (hb : totL l ≤ 9223372036854775807) (hl : l.length ≤ 9223372036854775806) : seen_Add.f k l o n = some (addR l o n) := by
  unfold seen_Add.f addR
  rw [valid_cl (by omega) hb hl]
  simp only [Option.bind_some]
  by_cases hc : okV l = true ∧ (0 ≤ o ∧ o ≤ 59) ∧ (1 ≤ n ∧ n ≤ 1000000000)
  · rw [if_pos hc, if_pos hc]
    obtain ⟨hv, ho, hn⟩ := hc
    obtain ⟨h1, h2, h3⟩ := okV_len hv
    obtain ⟨a1, a2, a3⟩ := out_cl h3 ho
    have hlo := WR_len o h3
    rw [a1, if_pos ⟨by omega, by omega⟩]
    by_cases hr : rinB (OfL l o) n = true
    · rw [if_pos (by rw [← decide_eq_true_eq (p := 0 ≤ fdx (inR n) (OfL l o)), fdx_rin]; exact hr), if_pos hr]
      have hf : foundB l o = true := by
        cases hf : foundB l o with
        | true => rfl
        | false => rw [found_no h3 ⟨by omega, by omega⟩ hf, rinB_nil] at hr; cases hr
      rw [a3 hf]
    · rw [if_neg (by rw [← decide_eq_true_eq (p := 0 ≤ fdx (inR n) (OfL l o)), fdx_rin]; exact hr), if_neg hr, addAt_cl, take_gt]
      have hil : (insB n (OfL l o)).length = (OfL l o).length + 1 := by
        rw [← take_gt]
        have := List.findIdx_le_length (p := gtR n) (xs := OfL l o)
        simp only [List.length_append, List.length_take, List.length_drop, List.length_singleton]
        omega
      rw [join_cl (by omega) (Srt_insB (OfL_WR o h3) (by omega) hn.1 hn.2) (by omega)]
      simp only [Option.bind_some]
      rw [a2 (.inr trivial)]
      have hw := addL_WS h3 ho hn
      have ht : totL (addL l o n) ≤ 65 := by
        have := addL_tot h3 ho hn (rinB_no.1 (by simpa using hr))
        have g : ∀ b, 0 ≤ one b := fun b => by unfold one; split <;> omega
        have := g (rinB (OfL l o) (n - 1))
        have := g (rinB (OfL l o) (n + 1))
        omega
      have hlen := WS_len hw
      have e : putS o (joinC (insB n (OfL l o))) l = addL l o n := rfl
      rw [e, many_cl (by omega) (by omega) (by omega)]
      simp only [Option.bind_some]
      by_cases hg : totL (addL l o n) > 64
      · rw [if_pos hg, if_pos (by omega)]
      · rw [if_neg hg, if_neg (by omega)]
  · rw [if_neg hc, if_neg hc]
/-- The missing numbers, told. -/
def fillM : Nat → Int → Int → List Int → Int → List Int
  | 0, _, _, out, _ => out
  | d + 1, next, low, out, most => if next < low ∧ (out.length : Int) < most then fillM d (next + 1) low (out ++ [next]) most else out
def missL : List S47 → Int → List Int → Int → List Int
  | [], _, out, _ => out
  | x :: xs, next, out, most => missL xs (x.f1 + 1) (fillM (most.toNat - out.length) next x.f0 out most) most
def missC (l : List S47) (most : Int) : List Int := missL l 1 [] most
theorem fillM_len : ∀ (d : Nat) (next low : Int) (out : List Int) (most : Int), (fillM d next low out most).length ≤ out.length + d
  | 0, _, _, _, _ => by simp [fillM]
  | d + 1, next, low, out, most => by
    rw [fillM]
    split
    · have := fillM_len d (next + 1) low (out ++ [next]) most
      simp at this
      omega
    · omega
theorem miss_l1 {k' : Nat} (most : Int) (X : List S47) (hm : most ≤ 1000000) {i : Nat} (hi : i ≤ 1000000) (lo hi_ : Int) (hlo : lo ≤ 1000000000) (hhi : 0 ≤ hi_ ∧ hi_ ≤ 1000000000) (R : List Int → Option (List Int)) (B : Nat)
    (hR : ∀ k out, B ≤ k → (out.length : Int) ≤ max most 0 → seen_Missing.l0 k most out (hi_ + 1) X (X.length : Int) ((i + 1 : Nat) : Int) = R out) : ∀ (d k : Nat) (next : Int) (out : List Int), d = most.toNat - out.length → B + d < k → 0 ≤ next → (out.length : Int) ≤ max most 0 →
    seen_Missing.l1 k most out next X (X.length : Int) (i : Int) lo hi_ = R (fillM d next lo out most)
  | 0, k, next, out, hd, hk, hn, ho => by
    obtain ⟨k, rfl⟩ := pos_k hk
    simp only [seen_Missing.l1, fillM]
    rw [up (by omega), w64 (x := hi_ + 1) (by omega) (by omega), if_neg (show ¬ (out.length : Int) < most by omega)]
    simp only [ite_self]
    exact hR k out (by omega) ho
  | d + 1, k, next, out, hd, hk, hn, ho => by
    obtain ⟨k, rfl⟩ := pos_k hk
    simp only [seen_Missing.l1, fillM]
    rw [up (by omega), w64 (x := hi_ + 1) (by omega) (by omega)]
    by_cases hc : next < lo
    · rw [if_pos hc]
      by_cases hl : (out.length : Int) < most
      · rw [if_pos hl, if_pos (by omega), if_pos ⟨hc, hl⟩, w64 (by omega) (by omega)]
        exact miss_l1 (k' := k') most X hm hi lo hi_ hlo hhi R B hR d k (next + 1) (out ++ [next]) (by simp; omega) (by omega) (by omega) (by simp; omega)
      · rw [if_neg hl, if_neg (fun hh => hl hh.2)]
        exact hR k out (by omega) ho
    · rw [if_neg hc, if_neg (fun hh => hc hh.1)]
      exact hR k out (by omega) ho
theorem miss_l0 (most : Int) (X : List S47) (hm : most ≤ 1000000) (hX : X.length ≤ 1000000) : ∀ (d i k : Nat) (b next : Int) (out : List Int), i + d = X.length → WR b (X.drop i) → -1 ≤ b → d * (most.toNat + 2) < k → 0 ≤ next → (out.length : Int) ≤ max most 0 →
    seen_Missing.l0 k most out next X (X.length : Int) (i : Int) = some (missL (X.drop i) next out most)
  | 0, i, k, b, next, out, hi, hw, hb, hk, hn, ho => by
    obtain ⟨k, rfl⟩ := pos_k hk
    simp only [seen_Missing.l0]
    rw [if_neg (by omega), List.drop_eq_nil_of_le (by omega)]
    rfl
  | d + 1, i, k, b, next, out, hi, hw, hb, hk, hn, ho => by
    obtain ⟨k, rfl⟩ := pos_k hk
    have hlt : i < X.length := by omega
    have hd := List.drop_eq_getElem_cons hlt
    rw [hd] at hw
    obtain ⟨h1, h2, h3, h4⟩ := hw
    simp only [seen_Missing.l0]
    rw [if_pos (by omega), if_pos (by omega), if_pos (by omega), rd47 hlt, hd, missL]
    have hexp : (d + 1) * (most.toNat + 2) = d * (most.toNat + 2) + (most.toNat + 2) := by rw [Nat.add_mul, Nat.one_mul]
    exact miss_l1 (k' := 0) most X hm (by omega) X[i].f0 X[i].f1 (by omega) ⟨by omega, by omega⟩ (fun out => some (missL (X.drop (i + 1)) (X[i].f1 + 1) out most)) (d * (most.toNat + 2) + 1)
      (fun k out hk ho => miss_l0 most X hm hX d (i + 1) k X[i].f1 (X[i].f1 + 1) out (by omega) h4 (by omega) (by omega) (by omega) ho) (most.toNat - out.length) k next out rfl (by omega) hn ho
/-- The missing numbers of lists. -/
def missR (l : List S45) (o most : Int) : List Int := if okV l = true then missC (OfL l o) most else []
theorem missing_cl {l : List S45} {o most : Int} {k : Nat} (hk : l.length + 64 * (most.toNat + 2) < k) (hb : totL l ≤ 9223372036854775807) (hl : l.length ≤ 9223372036854775806) (ho : -9223372036854775808 ≤ o ∧ o ≤ 9223372036854775807) (hm : most ≤ 1000000) : seen_Missing.f k l o most = some (missR l o most) := by
  unfold seen_Missing.f missR
  rw [valid_cl (by omega) hb hl]
  simp only [Option.bind_some]
  cases hv : okV l with
  | false => simp
  | true =>
    obtain ⟨h1, h2, h3⟩ := okV_len hv
    rw [if_pos rfl, if_pos rfl, find_cl o (by omega)]
    simp only [Option.bind_some]
    cases hf : foundB l o with
    | true =>
      obtain ⟨hi, e1, e2⟩ := found_yes h3 ho hf
      rw [if_pos rfl, if_pos (by omega), if_pos (by omega), rd45 hi, e2]
      have hlo := WR_len o h3
      have hkk : (OfL l o).length * (most.toNat + 2) ≤ 64 * (most.toNat + 2) := Nat.mul_le_mul_right _ (by omega)
      have := miss_l0 most (OfL l o) hm (by omega) (OfL l o).length 0 k (-1) 1 [] (by omega) (by rw [List.drop_zero]; exact OfL_WR o h3) (by omega) (by omega) (by omega) (by simp only [List.length_nil]; omega)
      simpa [missC] using this
    | false =>
      rw [if_neg (by simp), found_no h3 ho hf]
      rfl
/-- Equal lists are told equal. -/
theorem ints_l0 (l : List Int) (hl : l.length ≤ 9223372036854775806) : ∀ (d i k : Nat), i + d = l.length → d < k → slotmeshref26_Ints.l0 k l l (i : Int) = some true
  | 0, i, k, hi, hk => by
    obtain ⟨k, rfl⟩ := pos_k hk
    simp only [slotmeshref26_Ints.l0]
    rw [if_neg (by omega)]
  | d + 1, i, k, hi, hk => by
    obtain ⟨k, rfl⟩ := pos_k hk
    simp only [slotmeshref26_Ints.l0]
    rw [if_pos (by omega), if_pos (by omega), if_pos (by omega), if_pos trivial, up (by omega)]
    exact ints_l0 l hl d (i + 1) k (by omega) (by omega)
theorem ints_cl {l : List Int} {k : Nat} (hk : l.length < k) (hl : l.length ≤ 9223372036854775806) : slotmeshref26_Ints.f k l l = some true := by
  unfold slotmeshref26_Ints.f
  rw [if_pos rfl]
  exact ints_l0 l hl l.length 0 k (by omega) hk
theorem same_l1 (l : List S45) (i : Nat) (hi : i < l.length) (hz : l[i].f1.length ≤ 9223372036854775806) (B : Nat) (hR : ∀ k, B ≤ k → slotmeshref26_Same.l0 k l l (wrap64 ((i : Int) + 1)) = some true) : ∀ (d j k : Nat), j + d = l[i].f1.length → B + d < k → slotmeshref26_Same.l1 k l l (i : Int) (j : Int) = some true
  | 0, j, k, hj, hk => by
    obtain ⟨k, rfl⟩ := pos_k hk
    simp only [slotmeshref26_Same.l1]
    rw [if_pos (by omega), if_pos (by omega), rd45 hi, if_neg (by omega)]
    exact hR k (by omega)
  | d + 1, j, k, hj, hk => by
    obtain ⟨k, rfl⟩ := pos_k hk
    simp only [slotmeshref26_Same.l1]
    rw [if_pos (by omega), if_pos (by omega), rd45 hi, if_pos (by omega), if_pos (by omega), if_pos (by omega), if_pos (by omega), if_neg (by simp), up (by omega)]
    exact same_l1 l i hi hz B hR d (j + 1) k (by omega) (by omega)
def weigh (l : List S45) : Nat := (l.map (fun s => s.f1.length + 3)).sum
theorem weigh_cons (s : S45) (l : List S45) : weigh (s :: l) = s.f1.length + 3 + weigh l := by simp [weigh]
theorem weigh_tot : ∀ (l : List S45), weigh l = totL l + 3 * l.length
  | [] => rfl
  | x :: xs => by rw [weigh_cons, totL_cons, weigh_tot xs, List.length_cons]; omega
theorem same_l0 (l : List S45) (hl : l.length ≤ 9223372036854775806) (hz : totL l ≤ 9223372036854775806) : ∀ (d i k : Nat), i + d = l.length → weigh (l.drop i) < k → slotmeshref26_Same.l0 k l l (i : Int) = some true
  | 0, i, k, hi, hk => by
    obtain ⟨k, rfl⟩ := pos_k hk
    simp only [slotmeshref26_Same.l0]
    rw [if_neg (by omega)]
  | d + 1, i, k, hi, hk => by
    have hlt : i < l.length := by omega
    have hd := List.drop_eq_getElem_cons hlt
    rw [hd, weigh_cons] at hk
    obtain ⟨k, rfl⟩ : ∃ m, k = m + 2 := ⟨k - 2, by omega⟩
    have hle : l[i].f1.length ≤ totL l := len_tot l i hlt
    simp only [slotmeshref26_Same.l0]
    rw [if_pos (by omega), if_pos (by omega), if_pos (by omega), if_pos trivial]
    simp only [slotmeshref26_Same.j1, bne_self_eq_false]
    rw [if_neg (by simp)]
    have := same_l1 l i hlt (by omega) (weigh (l.drop (i + 1)) + 1) (fun k hk => by rw [up (by omega)]; exact same_l0 l hl hz d (i + 1) k (by omega) (by omega)) l[i].f1.length 0 k (by omega) (by omega)
    simpa using this
where
  len_tot : ∀ (l : List S45) (i : Nat) (h : i < l.length), l[i].f1.length ≤ totL l
    | x :: xs, 0, h => by rw [totL_cons]; simp
    | x :: xs, i + 1, h => by
      have hl : i < xs.length := by simpa using h
      have := len_tot xs i hl
      rw [totL_cons]
      simp only [List.getElem_cons_succ]
      omega
theorem same_cl {l : List S45} {k : Nat} (hk : totL l + 3 * l.length < k) (hl : l.length ≤ 9223372036854775806) (hz : totL l ≤ 9223372036854775806) : slotmeshref26_Same.f k l l = some true := by
  unfold slotmeshref26_Same.f
  rw [if_pos rfl]
  exact same_l0 l hl hz l.length 0 k (by omega) (by rw [List.drop_zero, weigh_tot]; omega)
end Go.Proofs.Ytjibgfihfbdcaaa.Pl
