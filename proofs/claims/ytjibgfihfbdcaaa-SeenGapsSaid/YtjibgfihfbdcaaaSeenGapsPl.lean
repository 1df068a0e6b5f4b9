/- Plain laws of the missing numbers: what they are, and what the lists are when they were added. -/
import Derived.Test.YtjibgfihfbdcaaaSeenHead
namespace Go.Proofs.Ytjibgfihfbdcaaa.Pl
open Go.RowKit Go.Proofs.Ytjibgfihfbdcaaa.PSeen Go.Proofs.YtjibgfihfbdcaaaW.PrintWords
set_option linter.unusedVariables false
set_option linter.unusedSimpArgs false
/-- The numbers from s to stop that are not in X, in their order, are G. -/
def GapTo (X : List S47) : Int → List Int → Int → Prop
  | s, [], stop => s ≤ stop ∧ ∀ q, s ≤ q → q < stop → Rin X q
  | s, g :: gs, stop => s ≤ g ∧ (∀ q, s ≤ q → q < g → Rin X q) ∧ ¬ Rin X g ∧ g < stop ∧ GapTo X (g + 1) gs stop
theorem GapTo.le {X : List S47} : ∀ {G : List Int} {s stop : Int}, GapTo X s G stop → s ≤ stop
  | [], _, _, h => h.1
  | g :: gs, s, stop, ⟨h1, _, _, h4, _⟩ => by omega
theorem GapTo.skip {X : List S47} : ∀ {G : List Int} {s stop : Int}, GapTo X s G stop → Rin X stop → GapTo X s G (stop + 1)
  | [], s, stop, ⟨h0, h⟩, hr => ⟨by omega, fun q h1 h2 => by
    by_cases hq : q = stop
    · rw [hq]; exact hr
    · exact h q h1 (by omega)⟩
  | g :: gs, s, stop, ⟨h1, h2, h3, h4, h5⟩, hr => ⟨h1, h2, h3, by omega, h5.skip hr⟩
theorem GapTo.add {X : List S47} : ∀ {G : List Int} {s stop : Int}, GapTo X s G stop → ¬ Rin X stop → GapTo X s (G ++ [stop]) (stop + 1)
  | [], s, stop, ⟨h0, h⟩, hr => ⟨h0, h, hr, by omega, by omega, fun q h1 h2 => by omega⟩
  | g :: gs, s, stop, ⟨h1, h2, h3, h4, h5⟩, hr => ⟨h1, h2, h3, by omega, h5.add hr⟩
theorem GapTo.skips {X : List S47} {G : List Int} {s : Int} : ∀ (d : Nat) {stop stop2 : Int}, GapTo X s G stop → (stop2 - stop).toNat = d → stop ≤ stop2 → (∀ q, stop ≤ q → q < stop2 → Rin X q) → GapTo X s G stop2
  | 0, stop, stop2, h, hd, hle, _ => by
    obtain rfl : stop = stop2 := by omega
    exact h
  | d + 1, stop, stop2, h, hd, hle, hr => GapTo.skips d (h.skip (hr stop (by omega) (by omega))) (by omega) (by omega) (fun q h1 h2 => hr q (by omega) h2)
theorem fill_gap {X : List S47} {low : Int} {most : Int} : ∀ (d : Nat) {next : Int} {out : List Int}, d = most.toNat - out.length → GapTo X 1 out next → next ≤ low → (∀ q, next ≤ q → q < low → ¬ Rin X q) → (out.length : Int) ≤ most →
    ∃ stop, GapTo X 1 (fillM d next low out most) stop ∧ stop ≤ low ∧ ((fillM d next low out most).length : Int) ≤ most ∧ (((fillM d next low out most).length : Int) < most → stop = low)
  | 0, next, out, hd, h, hle, hr, ho => by
    rw [fillM]
    exact ⟨next, h, hle, ho, fun hl => by omega⟩
  | d + 1, next, out, hd, h, hle, hr, ho => by
    rw [fillM]
    by_cases hc : next < low ∧ (out.length : Int) < most
    · rw [if_pos hc]
      exact fill_gap d (by simp; omega) (h.add (hr next (by omega) hc.1)) (by omega) (fun q h1 h2 => hr q (by omega) h2) (by simp; omega)
    · rw [if_neg hc]
      exact ⟨next, h, hle, ho, fun hl => by omega⟩
theorem fill_full {d : Nat} {next low most : Int} {out : List Int} (h : ¬ (out.length : Int) < most) : fillM d next low out most = out := by
  cases d with
  | zero => rfl
  | succ d => rw [fillM, if_neg (fun hh => h hh.2)]
theorem miss_full {most : Int} : ∀ {X : List S47} {next : Int} {out : List Int}, ¬ (out.length : Int) < most → missL X next out most = out
  | [], _, _, _ => rfl
  | x :: xs, next, out, h => by
    rw [missL, fill_full h]
    exact miss_full h
/-- The greatest number. -/
def topR : Int → List S47 → Int
  | b, [] => b
  | _, x :: xs => topR x.f1 xs
theorem topR_le : ∀ {X : List S47} {b : Int}, WR b X → b ≤ topR b X
  | [], _, _ => Int.le_refl _
  | x :: xs, b, ⟨h1, h2, h3, h4⟩ => by
    rw [topR]
    have := topR_le h4
    omega
theorem topR_hi : ∀ {X : List S47} {b n : Int}, WR b X → Rin X n → n ≤ topR b X
  | [], _, _, _, h => absurd h (Rin_nil _)
  | x :: xs, b, n, ⟨h1, h2, h3, h4⟩, h => by
    rw [topR]
    rcases Rin_cons.1 h with h | h
    · have := topR_le h4; omega
    · exact topR_hi h4 h
theorem miss_gap {Z : List S47} {most : Int} : ∀ (X : List S47) (b next : Int) (out : List Int), WR b X → next = b + 1 → GapTo Z 1 out next → (∀ q, next ≤ q → (Rin Z q ↔ Rin X q)) → (out.length : Int) < most →
    ∃ stop, GapTo Z 1 (missL X next out most) stop ∧ stop ≤ topR b X + 1 ∧ ((missL X next out most).length : Int) ≤ most ∧ (((missL X next out most).length : Int) < most → stop = topR b X + 1)
  | [], b, next, out, hw, hn, h, hr, ho => ⟨next, h, by rw [topR]; omega, by rw [missL]; omega, fun _ => by rw [topR]; omega⟩
  | x :: xs, b, next, out, ⟨h1, h2, h3, h4⟩, hn, h, hr, ho => by
    rw [missL, topR]
    have hno : ∀ q, next ≤ q → q < x.f0 → ¬ Rin Z q := fun q g1 g2 hz => by
      rcases Rin_cons.1 ((hr q g1).1 hz) with g | g
      · omega
      · have := h4.lo g; omega
    obtain ⟨stop, k1, k2, k3, k4⟩ := fill_gap (low := x.f0) (most := most) (most.toNat - out.length) rfl h (by omega) hno (by omega)
    have htop := topR_le h4
    by_cases hl : ((fillM (most.toNat - out.length) next x.f0 out most).length : Int) < most
    · obtain rfl := k4 hl
      have k5 := GapTo.skips (x.f1 + 1 - x.f0).toNat k1 rfl (by omega) (fun q g1 g2 => (hr q (by omega)).2 (Rin_cons.2 (.inl (by omega))))
      refine miss_gap xs x.f1 (x.f1 + 1) _ h4 rfl k5 (fun q g1 => ?_) hl
      rw [hr q (by omega), Rin_cons]
      constructor
      · rintro (g | g)
        · omega
        · exact g
      · exact .inr
    · rw [miss_full hl]
      exact ⟨stop, k1, by omega, k3, fun hh => absurd hh hl⟩
theorem missC_gap {X : List S47} {most : Int} (hX : WR (-1) X) (hne : X ≠ []) (hm : 0 < most) : ∃ stop, GapTo X 1 (missC X most) stop ∧ stop ≤ topR 0 X + 1 ∧ ((missC X most).length : Int) ≤ most ∧ (((missC X most).length : Int) < most → stop = topR 0 X + 1) := by
  cases X with
  | nil => exact absurd rfl hne
  | cons x xs =>
    have hw := hX
    obtain ⟨h1, h2, h3, h4⟩ := hX
    have h0 : GapTo (x :: xs) 1 [] 1 := ⟨Int.le_refl _, fun q g1 g2 => by omega⟩
    -- the first gap begins at 1
    have hno : ∀ q, (1 : Int) ≤ q → q < x.f0 → ¬ Rin (x :: xs) q := fun q g1 g2 hz => by
      rcases Rin_cons.1 hz with g | g
      · omega
      · have := h4.lo g; omega
    unfold missC
    rw [missL, topR]
    obtain ⟨stop, k1, k2, k3, k4⟩ := fill_gap (low := x.f0) (most := most) (most.toNat - ([] : List Int).length) rfl h0 (by omega) hno (by simp only [List.length_nil]; omega)
    have htop := topR_le h4
    by_cases hl : ((fillM (most.toNat - ([] : List Int).length) 1 x.f0 [] most).length : Int) < most
    · obtain rfl := k4 hl
      have k5 := GapTo.skips (x.f1 + 1 - x.f0).toNat k1 rfl (by omega) (fun q g1 g2 => Rin_cons.2 (.inl (by omega)))
      refine miss_gap xs x.f1 (x.f1 + 1) _ h4 rfl k5 (fun q g1 => ?_) hl
      rw [Rin_cons]
      constructor
      · rintro (g | g)
        · omega
        · exact g
      · exact .inr
    · rw [miss_full hl]
      exact ⟨stop, k1, by omega, k3, fun hh => absurd hh hl⟩
theorem topR_in : ∀ {X : List S47} {b : Int}, WR b X → X ≠ [] → Rin X (topR 0 X)
  | [x], b, ⟨h1, h2, h3, h4⟩, _ => Rin_cons.2 (.inl ⟨h2, Int.le_refl _⟩)
  | x :: y :: ys, b, ⟨h1, h2, h3, h4⟩, _ => Rin_cons.2 (.inr (topR_in h4 (by simp)))
/-- What the loop over the missing numbers looks at. -/
def nextOf (s : Int) : List Int → Nat → Int
  | _, 0 => s
  | [], _ + 1 => s
  | g :: gs, i + 1 => nextOf (g + 1) gs i
theorem gap_at {X : List S47} : ∀ {G : List Int} {s stop : Int}, GapTo X s G stop → ∀ (i : Nat) (h : i < G.length), s ≤ nextOf s G i ∧ nextOf s G i ≤ G[i] ∧ (nextOf s G i < G[i] → Rin X (G[i] - 1)) ∧ ¬ Rin X G[i] ∧ G[i] < stop ∧ nextOf s G (i + 1) = G[i] + 1 ∧ ∀ q ∈ G.take i, s ≤ q ∧ q < nextOf s G i
  | g :: gs, s, stop, ⟨h1, h2, h3, h4, h5⟩, 0, h => by
    simp only [List.getElem_cons_zero, nextOf]
    exact ⟨Int.le_refl _, h1, fun hh => h2 _ (by omega) (by omega), h3, h4, trivial, by simp⟩
  | g :: gs, s, stop, ⟨h1, h2, h3, h4, h5⟩, i + 1, h => by
    have hl : i < gs.length := by simpa using h
    obtain ⟨k0, k1, k2, k3, k4, k5, k6⟩ := gap_at h5 i hl
    simp only [List.getElem_cons_succ, nextOf]
    refine ⟨by omega, k1, k2, k3, k4, k5, fun q hq => ?_⟩
    rw [List.take_succ_cons] at hq
    rcases List.mem_cons.1 hq with rfl | hq
    · exact ⟨h1, by omega⟩
    · have := k6 q hq; exact ⟨by omega, this.2⟩
theorem gap_all {X : List S47} : ∀ {G : List Int} {s stop q : Int}, GapTo X s G stop → s ≤ q → q < stop → Rin X q ∨ q ∈ G
  | [], s, stop, q, ⟨_, h⟩, h1, h2 => .inl (h q h1 h2)
  | g :: gs, s, stop, q, ⟨k1, k2, k3, k4, k5⟩, h1, h2 => by
    rcases Int.lt_trichotomy q g with c | c | c
    · exact .inl (k2 q h1 c)
    · exact .inr (by simp [c])
    · rcases gap_all k5 (by omega) h2 with d | d
      · exact .inl d
      · exact .inr (by simp [d])
theorem gap_in {X : List S47} : ∀ {G : List Int} {s stop q : Int}, GapTo X s G stop → q ∈ G → s ≤ q ∧ q < stop
  | g :: gs, s, stop, q, ⟨k1, k2, k3, k4, k5⟩, h => by
    rcases List.mem_cons.1 h with rfl | h
    · exact ⟨k1, k4⟩
    · have := gap_in k5 h; exact ⟨by omega, this.2⟩
/-- The lists after some numbers of an origin were added. -/
def addAll (l : List S45) (o : Int) (L : List Int) : List S45 := L.foldl (fun m g => addL m o g) l
theorem addAll_snoc (l : List S45) (o : Int) (L : List Int) (g : Int) : addAll l o (L ++ [g]) = addL (addAll l o L) o g := by simp [addAll]
theorem addAll_spec {o : Int} (ho : 0 ≤ o ∧ o ≤ 59) : ∀ (L : List Int) (l : List S45), WS (-1) l → (∀ g ∈ L, 1 ≤ g ∧ g ≤ 1000000000) → WS (-1) (addAll l o L) ∧ ∀ q, Rin (OfL (addAll l o L) o) q ↔ q ∈ L ∨ Rin (OfL l o) q
  | [], l, h, _ => ⟨h, fun q => by simp [addAll]⟩
  | g :: gs, l, h, hg => by
    obtain ⟨k1, k2⟩ := addAll_spec ho gs (addL l o g) (addL_WS h ho (hg g (by simp))) (fun x hx => hg x (by simp [hx]))
    refine ⟨k1, fun q => ?_⟩
    show Rin (OfL (addAll (addL l o g) o gs) o) q ↔ _
    rw [k2 q, addL_in h ho (hg g (by simp)) o q, List.mem_cons]
    constructor
    · rintro (a | ⟨_, a⟩ | a)
      · exact .inl (.inr a)
      · exact .inl (.inl a)
      · exact .inr a
    · rintro ((a | a) | a)
      · exact .inr (.inl ⟨rfl, a⟩)
      · exact .inl a
      · exact .inr (.inr a)
/-- When all were added the origin has one interval. -/
theorem addAll_one {l : List S45} {o : Int} (ho : 0 ≤ o ∧ o ≤ 59) (h : WS (-1) l) {G : List Int} (hne : OfL l o ≠ []) (hg : GapTo (OfL l o) 1 G (topR 0 (OfL l o) + 1)) : OfL (addAll l o G) o = [⟨1, topR 0 (OfL l o)⟩] := by
  have hw := OfL_WR o h
  have htin := topR_in hw hne
  have hthi := WR.hi hw htin
  have htlo := hw.lo htin
  obtain ⟨k1, k2⟩ := addAll_spec ho G l h (fun g hq => by have := gap_in hg hq; omega)
  refine uniqR _ _ (-1) (OfL_WR o k1) ⟨by simp only; omega, by simp only; omega, hthi, trivial⟩ (fun q => ?_)
  rw [k2 q, Rin_cons]
  simp only
  constructor
  · rintro (a | a)
    · have := gap_in hg a; exact .inl (by omega)
    · have h1 := hw.lo a
      have h2 : q ≤ topR 0 (OfL l o) := by
        cases hX : OfL l o with
        | nil => rw [hX] at a; exact absurd a (Rin_nil _)
        | cons x xs => rw [hX] at a hw; exact topR_hi (b := -1) hw a
      exact .inl (by omega)
  · rintro (a | a)
    · rcases gap_all hg a.1 (by omega) with b | b
      · exact .inr b
      · exact .inl b
    · exact absurd a (Rin_nil _)
theorem OfL_mem : ∀ {l : List S45} {b : Int}, WS b l → ∀ s ∈ l, OfL l s.f0 = s.f1
  | x :: xs, b, ⟨h1, h2, h3, h4, h5⟩, s, hs => by
    rcases List.mem_cons.1 hs with rfl | hs
    · rw [OfL, if_pos rfl]
    · have h6 : x.f0 < s.f0 := by
        obtain ⟨i, hi, he⟩ := List.getElem_of_mem hs
        have := (WS_at h5 i hi).1
        rw [he] at this
        exact this
      rw [OfL, if_neg (by omega)]
      exact OfL_mem h5 s hs
end Go.Proofs.Ytjibgfihfbdcaaa.Pl
