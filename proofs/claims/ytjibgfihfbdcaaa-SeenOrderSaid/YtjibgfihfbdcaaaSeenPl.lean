/- Plain laws of ordered intervals and of the lists of origins: what is in them, that they are told by what is in them, and how a number is put in. -/
import Derived.Test.YtjibgfihfbdcaaaPSeenx0
import Derived.Test.YtjibgfihfbdcaaaNum
namespace Go.Proofs.Ytjibgfihfbdcaaa.Pl
open Go.RowKit Go.Proofs.Ytjibgfihfbdcaaa.PSeen Go.Proofs.YtjibgfihfbdcaaaW.PrintWords
set_option linter.unusedVariables false
set_option linter.unusedSimpArgs false
/-- A number is in one of some intervals. -/
def Rin (l : List S47) (n : Int) : Prop := ∃ x ∈ l, x.f0 ≤ n ∧ n ≤ x.f1
/-- Intervals that are valid behind an end b. -/
def WR : Int → List S47 → Prop
  | _, [] => True
  | b, x :: xs => b + 1 < x.f0 ∧ x.f0 ≤ x.f1 ∧ x.f1 ≤ 1000000000 ∧ WR x.f1 xs
theorem Rin_nil (n : Int) : ¬ Rin [] n := fun ⟨_, h, _⟩ => by cases h
theorem Rin_cons {x : S47} {l : List S47} {n : Int} : Rin (x :: l) n ↔ (x.f0 ≤ n ∧ n ≤ x.f1) ∨ Rin l n := by
  unfold Rin
  simp only [List.mem_cons, exists_eq_or_imp]
theorem WR.mono : ∀ {l : List S47} {b b' : Int}, WR b l → b' ≤ b → WR b' l
  | [], _, _, _, _ => trivial
  | x :: xs, b, b', ⟨h1, h2, h3, h4⟩, h => ⟨by omega, h2, h3, h4⟩
theorem WR.lo : ∀ {l : List S47} {b n : Int}, WR b l → Rin l n → b + 1 < n
  | [], _, _, _, h => absurd h (Rin_nil _)
  | x :: xs, b, n, ⟨h1, h2, h3, h4⟩, h => by
    rcases Rin_cons.1 h with h | h
    · omega
    · have := WR.lo h4 h; omega
theorem WR.hi : ∀ {l : List S47} {b n : Int}, WR b l → Rin l n → n ≤ 1000000000
  | [], _, _, _, h => absurd h (Rin_nil _)
  | x :: xs, b, n, ⟨h1, h2, h3, h4⟩, h => by
    rcases Rin_cons.1 h with h | h
    · omega
    · exact WR.hi h4 h
/-- Intervals are told by what is in them. -/
theorem uniqR : ∀ (l m : List S47) (b : Int), WR b l → WR b m → (∀ n, Rin l n ↔ Rin m n) → l = m
  | [], [], _, _, _, _ => rfl
  | [], y :: ys, _, _, ⟨_, h2, _, _⟩, h => absurd ((h y.f0).2 (Rin_cons.2 (.inl ⟨by omega, h2⟩))) (Rin_nil _)
  | x :: xs, [], _, ⟨_, h2, _, _⟩, _, h => absurd ((h x.f0).1 (Rin_cons.2 (.inl ⟨by omega, h2⟩))) (Rin_nil _)
  | x :: xs, y :: ys, b, ⟨hx1, hx2, hx3, hx4⟩, ⟨hy1, hy2, hy3, hy4⟩, h => by
    have e0 : x.f0 = y.f0 := by
      have a1 := Rin_cons.1 ((h x.f0).1 (Rin_cons.2 (.inl ⟨by omega, hx2⟩)))
      have a2 := Rin_cons.1 ((h y.f0).2 (Rin_cons.2 (.inl ⟨by omega, hy2⟩)))
      have b1 : y.f0 ≤ x.f0 := by
        rcases a1 with a1 | a1
        · exact a1.1
        · have := hy4.lo a1; omega
      have b2 : x.f0 ≤ y.f0 := by
        rcases a2 with a2 | a2
        · exact a2.1
        · have := hx4.lo a2; omega
      omega
    have e1 : x.f1 = y.f1 := by
      rcases Int.lt_trichotomy x.f1 y.f1 with g | g | g
      · have a1 := Rin_cons.1 ((h (x.f1 + 1)).2 (Rin_cons.2 (.inl ⟨by omega, by omega⟩)))
        rcases a1 with a1 | a1
        · omega
        · have := hx4.lo a1; omega
      · exact g
      · have a1 := Rin_cons.1 ((h (y.f1 + 1)).1 (Rin_cons.2 (.inl ⟨by omega, by omega⟩)))
        rcases a1 with a1 | a1
        · omega
        · have := hy4.lo a1; omega
    have e2 : xs = ys := by
      refine uniqR xs ys x.f1 hx4 (e1 ▸ hy4) (fun n => ⟨fun hn => ?_, fun hn => ?_⟩)
      · have := hx4.lo hn
        rcases Rin_cons.1 ((h n).1 (Rin_cons.2 (.inr hn))) with a | a
        · omega
        · exact a
      · have := hy4.lo hn
        rcases Rin_cons.1 ((h n).2 (Rin_cons.2 (.inr hn))) with a | a
        · omega
        · exact a
    obtain ⟨x0, x1⟩ := x
    obtain ⟨y0, y1⟩ := y
    simp only at e0 e1
    rw [e0, e1, e2]
/-- In which touching intervals are joined: behind c. -/
def jn : S47 → List S47 → List S47
  | c, [] => [c]
  | c, x :: xs => if x.f0 ≤ c.f1 + 1 then jn ⟨c.f0, mx c.f1 x.f1⟩ xs else c :: jn x xs
def joinC : List S47 → List S47
  | [] => []
  | x :: xs => jn x xs
/-- Intervals in the order of their beginnings. -/
def Srt : Int → List S47 → Prop
  | _, [] => True
  | b, x :: xs => b ≤ x.f0 ∧ x.f0 ≤ x.f1 ∧ x.f1 ≤ 1000000000 ∧ Srt x.f0 xs
theorem Srt.mono : ∀ {l : List S47} {b b' : Int}, Srt b l → b' ≤ b → Srt b' l
  | [], _, _, _, _ => trivial
  | x :: xs, b, b', ⟨h1, h2, h3, h4⟩, h => ⟨by omega, h2, h3, h4⟩
theorem jn_spec : ∀ (l : List S47) (c : S47) (b : Int), b + 1 < c.f0 → c.f0 ≤ c.f1 → c.f1 ≤ 1000000000 → Srt c.f0 l → WR b (jn c l) ∧ ∀ n, Rin (jn c l) n ↔ (c.f0 ≤ n ∧ n ≤ c.f1) ∨ Rin l n
  | [], c, b, h1, h2, h3, _ => ⟨⟨h1, h2, h3, trivial⟩, fun n => Rin_cons⟩
  | x :: xs, c, b, h1, h2, h3, ⟨g1, g2, g3, g4⟩ => by
    rw [jn]
    by_cases hc : x.f0 ≤ c.f1 + 1
    · rw [if_pos hc]
      have hm : c.f1 ≤ mx c.f1 x.f1 ∧ x.f1 ≤ mx c.f1 x.f1 ∧ (mx c.f1 x.f1 = c.f1 ∨ mx c.f1 x.f1 = x.f1) := by unfold mx; split <;> omega
      obtain ⟨k1, k2⟩ := jn_spec xs ⟨c.f0, mx c.f1 x.f1⟩ b h1 (by simp only; omega) (by simp only; omega) (g4.mono g1)
      refine ⟨k1, fun n => ?_⟩
      rw [k2 n, Rin_cons]
      simp only
      constructor
      · rintro (h | h)
        · by_cases hn : n ≤ c.f1
          · exact .inl ⟨h.1, hn⟩
          · exact .inr (.inl ⟨by omega, by omega⟩)
        · exact .inr (.inr h)
      · rintro (h | h | h)
        · exact .inl ⟨h.1, by omega⟩
        · exact .inl ⟨by omega, by omega⟩
        · exact .inr h
    · rw [if_neg hc]
      obtain ⟨k1, k2⟩ := jn_spec xs x c.f1 (by omega) g2 g3 g4
      refine ⟨⟨h1, h2, h3, k1⟩, fun n => ?_⟩
      rw [Rin_cons, k2 n, Rin_cons]
/-- A number's interval behind those that do not begin behind it. -/
def insB (n : Int) : List S47 → List S47
  | [] => [⟨n, n⟩]
  | x :: xs => if x.f0 > n then ⟨n, n⟩ :: x :: xs else x :: insB n xs
theorem Srt_of_WR : ∀ {l : List S47} {b c : Int}, WR b l → c ≤ b + 2 → Srt c l
  | [], _, _, _, _ => trivial
  | x :: xs, b, c, ⟨h1, h2, h3, h4⟩, h => ⟨by omega, h2, h3, Srt_of_WR h4 (by omega)⟩
theorem Srt_insB : ∀ {l : List S47} {b c n : Int}, WR b l → c ≤ b + 2 → c ≤ n → n ≤ 1000000000 → Srt c (insB n l)
  | [], _, _, _, _, _, h, h2 => ⟨h, Int.le_refl _, h2, trivial⟩
  | x :: xs, b, c, n, ⟨h1, h2, h3, h4⟩, h, hn, hn2 => by
    rw [insB]
    split
    · exact ⟨hn, Int.le_refl _, hn2, by simp only; omega, h2, h3, Srt_of_WR h4 (by omega)⟩
    · exact ⟨by omega, h2, h3, Srt_insB h4 (by omega) (by omega) hn2⟩
theorem Rin_insB : ∀ (l : List S47) (n m : Int), Rin (insB n l) m ↔ m = n ∨ Rin l m
  | [], n, m => by
    rw [insB, Rin_cons]
    simp only
    constructor
    · rintro (h | h)
      · exact .inl (by omega)
      · exact .inr h
    · rintro (h | h)
      · exact .inl (by omega)
      · exact .inr h
  | x :: xs, n, m => by
    rw [insB]
    split
    · rw [Rin_cons]
      simp only
      constructor
      · rintro (h | h)
        · exact .inl (by omega)
        · exact .inr h
      · rintro (h | h)
        · exact .inl (by omega)
        · exact .inr h
    · rw [Rin_cons, Rin_insB xs n m, Rin_cons]
      constructor
      · rintro (h | h | h)
        · exact .inr (.inl h)
        · exact .inl h
        · exact .inr (.inr h)
      · rintro (h | h | h)
        · exact .inr (.inl h)
        · exact .inl h
        · exact .inr (.inr h)
/-- A number put in: the intervals that the library's way comes to. -/
def putR (n : Int) (l : List S47) : List S47 := joinC (insB n l)
theorem putR_spec {l : List S47} {b n : Int} (h : WR b l) (hb : b + 1 < n) (hn : n ≤ 1000000000) : WR b (putR n l) ∧ ∀ m, Rin (putR n l) m ↔ m = n ∨ Rin l m := by
  have hs : Srt (b + 1) (insB n l) := Srt_insB h (by omega) (by omega) hn
  have hr := Rin_insB l n
  unfold putR
  cases l with
  | nil => exact ⟨⟨hb, Int.le_refl _, hn, trivial⟩, hr⟩
  | cons x xs =>
    obtain ⟨h1, h2, h3, h4⟩ := h
    revert hs hr
    rw [insB]
    split
    · intro hs hr
      obtain ⟨s1, s2, s3, s4⟩ := hs
      obtain ⟨k1, k2⟩ := jn_spec (x :: xs) ⟨n, n⟩ b hb s2 s3 s4
      exact ⟨k1, fun m => by rw [← hr m, Rin_cons]; exact k2 m⟩
    · intro hs hr
      obtain ⟨s1, s2, s3, s4⟩ := hs
      obtain ⟨k1, k2⟩ := jn_spec (insB n xs) x b h1 s2 s3 s4
      exact ⟨k1, fun m => by rw [← hr m, Rin_cons]; exact k2 m⟩
/-- The same, told at once. -/
def insR (n : Int) : List S47 → List S47
  | [] => [⟨n, n⟩]
  | x :: xs => if x.f1 + 1 < n then x :: insR n xs
    else if n + 1 < x.f0 then ⟨n, n⟩ :: x :: xs
    else if n + 1 = x.f0 then ⟨n, x.f1⟩ :: xs
    else if x.f1 + 1 = n then (match xs with
      | [] => [⟨x.f0, n⟩]
      | y :: ys => if n + 1 = y.f0 then ⟨x.f0, y.f1⟩ :: ys else ⟨x.f0, n⟩ :: y :: ys)
    else x :: xs
theorem insR_spec : ∀ {l : List S47} {b n : Int}, WR b l → b + 1 < n → n ≤ 1000000000 → WR b (insR n l) ∧ ∀ m, Rin (insR n l) m ↔ m = n ∨ Rin l m
  | [], b, n, _, hb, hn => ⟨⟨hb, Int.le_refl _, hn, trivial⟩, fun m => by
    rw [insR, Rin_cons]
    simp only
    constructor
    · rintro (h | h)
      · exact .inl (by omega)
      · exact .inr h
    · rintro (h | h)
      · exact .inl (by omega)
      · exact .inr h⟩
  | x :: xs, b, n, ⟨h1, h2, h3, h4⟩, hb, hn => by
    rw [insR.eq_def]
    simp only
    by_cases c1 : x.f1 + 1 < n
    · rw [if_pos c1]
      obtain ⟨k1, k2⟩ := insR_spec h4 c1 hn
      refine ⟨⟨h1, h2, h3, k1⟩, fun m => ?_⟩
      rw [Rin_cons, k2 m, Rin_cons]
      constructor
      · rintro (h | h | h)
        · exact .inr (.inl h)
        · exact .inl h
        · exact .inr (.inr h)
      · rintro (h | h | h)
        · exact .inr (.inl h)
        · exact .inl h
        · exact .inr (.inr h)
    rw [if_neg c1]
    by_cases c2 : n + 1 < x.f0
    · rw [if_pos c2]
      refine ⟨⟨hb, Int.le_refl _, hn, c2, h2, h3, h4⟩, fun m => ?_⟩
      rw [Rin_cons]
      simp only
      constructor
      · rintro (h | h)
        · exact .inl (by omega)
        · exact .inr h
      · rintro (h | h)
        · exact .inl (by omega)
        · exact .inr h
    rw [if_neg c2]
    by_cases c3 : n + 1 = x.f0
    · rw [if_pos c3]
      refine ⟨⟨hb, by simp only; omega, h3, h4⟩, fun m => ?_⟩
      rw [Rin_cons, Rin_cons]
      simp only
      constructor
      · rintro (h | h)
        · by_cases hm : m = n
          · exact .inl hm
          · exact .inr (.inl (by omega))
        · exact .inr (.inr h)
      · rintro (h | h | h)
        · exact .inl (by omega)
        · exact .inl (by omega)
        · exact .inr h
    rw [if_neg c3]
    by_cases c4 : x.f1 + 1 = n
    · rw [if_pos c4]
      cases xs with
      | nil =>
        refine ⟨⟨h1, by simp only; omega, hn, trivial⟩, fun m => ?_⟩
        rw [Rin_cons, Rin_cons]
        simp only
        constructor
        · rintro (h | h)
          · by_cases hm : m = n
            · exact .inl hm
            · exact .inr (.inl (by omega))
          · exact .inr (.inr h)
        · rintro (h | h | h)
          · exact .inl (by omega)
          · exact .inl (by omega)
          · exact .inr h
      | cons y ys =>
        obtain ⟨g1, g2, g3, g4⟩ := h4
        simp only
        by_cases c5 : n + 1 = y.f0
        · rw [if_pos c5]
          refine ⟨⟨h1, by simp only; omega, g3, g4⟩, fun m => ?_⟩
          rw [Rin_cons, Rin_cons, Rin_cons]
          simp only
          constructor
          · rintro (h | h)
            · by_cases hm : m = n
              · exact .inl hm
              · by_cases hm2 : m ≤ x.f1
                · exact .inr (.inl (by omega))
                · exact .inr (.inr (.inl (by omega)))
            · exact .inr (.inr (.inr h))
          · rintro (h | h | h | h)
            · exact .inl (by omega)
            · exact .inl (by omega)
            · exact .inl (by omega)
            · exact .inr h
        · rw [if_neg c5]
          refine ⟨⟨h1, by simp only; omega, hn, by simp only; omega, g2, g3, g4⟩, fun m => ?_⟩
          rw [Rin_cons (x := ⟨x.f0, n⟩), Rin_cons (x := x)]
          simp only
          constructor
          · rintro (h | h)
            · by_cases hm : m = n
              · exact .inl hm
              · exact .inr (.inl (by omega))
            · exact .inr (.inr h)
          · rintro (h | h | h)
            · exact .inl (by omega)
            · exact .inl (by omega)
            · exact .inr h
    · rw [if_neg c4]
      refine ⟨⟨h1, h2, h3, h4⟩, fun m => ⟨fun h => .inr h, fun h => ?_⟩⟩
      rcases h with rfl | h
      · exact Rin_cons.2 (.inl (by omega))
      · exact h
theorem putR_insR {l : List S47} {b n : Int} (h : WR b l) (hb : b + 1 < n) (hn : n ≤ 1000000000) : putR n l = insR n l := by
  obtain ⟨a1, a2⟩ := putR_spec h hb hn
  obtain ⟨b1, b2⟩ := insR_spec h hb hn
  exact uniqR _ _ b a1 b1 (fun m => by rw [a2, b2])
/-- Whether a number is in one of some intervals. -/
def rinB (l : List S47) (n : Int) : Bool := l.any (fun x => decide (x.f0 ≤ n ∧ n ≤ x.f1))
theorem rinB_iff {l : List S47} {n : Int} : rinB l n = true ↔ Rin l n := by
  unfold rinB Rin
  simp only [List.any_eq_true, decide_eq_true_eq]
theorem rinB_no {l : List S47} {n : Int} : rinB l n = false ↔ ¬ Rin l n := by rw [← rinB_iff]; simp
theorem rinB_cons {x : S47} {l : List S47} {n : Int} : rinB (x :: l) n = (decide (x.f0 ≤ n ∧ n ≤ x.f1) || rinB l n) := rfl
def one (b : Bool) : Int := if b = true then 1 else 0
/-- How many intervals there are behind it. -/
theorem insR_len : ∀ {l : List S47} {b n : Int}, WR b l → ¬ Rin l n → ((insR n l).length : Int) = l.length + 1 - one (rinB l (n - 1)) - one (rinB l (n + 1))
  | [], b, n, _, _ => by simp [insR, rinB, one]
  | x :: xs, b, n, ⟨h1, h2, h3, h4⟩, hr => by
    have hx : ¬ (x.f0 ≤ n ∧ n ≤ x.f1) := fun h => hr (Rin_cons.2 (.inl h))
    have hxs : ¬ Rin xs n := fun h => hr (Rin_cons.2 (.inr h))
    rw [insR.eq_def]
    simp only
    rw [rinB_cons, rinB_cons]
    by_cases c1 : x.f1 + 1 < n
    · rw [if_pos c1, decide_eq_false (by omega), decide_eq_false (by omega), Bool.false_or, Bool.false_or]
      have := insR_len h4 hxs
      simp only [List.length_cons]
      omega
    rw [if_neg c1]
    have no : ∀ m, m ≤ x.f1 + 1 → rinB xs m = false := fun m hm => rinB_no.2 (fun hh => by have := h4.lo hh; omega)
    by_cases c2 : n + 1 < x.f0
    · rw [if_pos c2, decide_eq_false (by omega), decide_eq_false (by omega), no _ (by omega), no _ (by omega)]
      simp [one]
    rw [if_neg c2]
    by_cases c3 : n + 1 = x.f0
    · rw [if_pos c3, decide_eq_false (by omega), decide_eq_true (by omega), no _ (by omega)]
      simp [one]
    rw [if_neg c3]
    have c4 : x.f1 + 1 = n := by omega
    rw [if_pos c4, decide_eq_true (by omega), decide_eq_false (by omega)]
    cases xs with
    | nil => simp [one, rinB]
    | cons y ys =>
      obtain ⟨g1, g2, g3, g4⟩ := h4
      simp only
      rw [no (n - 1) (by omega), rinB_cons (n := n + 1)]
      by_cases c5 : n + 1 = y.f0
      · rw [if_pos c5, decide_eq_true (by omega)]
        simp [one]
      · rw [if_neg c5, decide_eq_false (by omega), rinB_no.2 (fun hh => by have := g4.lo hh; omega)]
        simp [one]
/-- The lists of origins, valid behind an origin b. -/
def WS : Int → List S45 → Prop
  | _, [] => True
  | b, s :: ss => b < s.f0 ∧ s.f0 ≤ 59 ∧ s.f1 ≠ [] ∧ WR (-1) s.f1 ∧ WS s.f0 ss
/-- The intervals of an origin. -/
def OfL : List S45 → Int → List S47
  | [], _ => []
  | s :: ss, o => if s.f0 = o then s.f1 else OfL ss o
def totL (l : List S45) : Nat := (l.map (fun s => s.f1.length)).sum
theorem totL_cons (s : S45) (l : List S45) : totL (s :: l) = s.f1.length + totL l := by simp [totL]
theorem WS.mono : ∀ {l : List S45} {b b' : Int}, WS b l → b' ≤ b → WS b' l
  | [], _, _, _, _ => trivial
  | x :: xs, b, b', ⟨h1, h2, h3, h4, h5⟩, h => ⟨by omega, h2, h3, h4, h5⟩
theorem OfL_lo : ∀ {l : List S45} {b o : Int}, WS b l → o ≤ b → OfL l o = []
  | [], _, _, _, _ => rfl
  | x :: xs, b, o, ⟨h1, h2, h3, h4, h5⟩, h => by
    rw [OfL, if_neg (by omega)]
    exact OfL_lo h5 (by omega)
theorem OfL_hi : ∀ {l : List S45} {b o : Int}, WS b l → 59 < o → OfL l o = []
  | [], _, _, _, _ => rfl
  | x :: xs, b, o, ⟨h1, h2, h3, h4, h5⟩, h => by
    rw [OfL, if_neg (by omega)]
    exact OfL_hi h5 h
theorem OfL_WR : ∀ {l : List S45} {b : Int} (o : Int), WS b l → WR (-1) (OfL l o)
  | [], _, _, _ => trivial
  | x :: xs, b, o, ⟨h1, h2, h3, h4, h5⟩ => by
    rw [OfL]
    split
    · exact h4
    · exact OfL_WR o h5
theorem Rin_head {l : List S47} {b : Int} (h : WR b l) (hn : l ≠ []) : ∃ n, Rin l n := by
  cases l with
  | nil => exact absurd rfl hn
  | cons x xs => exact ⟨x.f0, Rin_cons.2 (.inl ⟨Int.le_refl _, h.2.1⟩)⟩
/-- The lists are told by what is in them. -/
theorem uniqS : ∀ (l m : List S45) (b : Int), WS b l → WS b m → (∀ o n, Rin (OfL l o) n ↔ Rin (OfL m o) n) → l = m
  | [], [], _, _, _, _ => rfl
  | [], y :: ys, _, _, ⟨_, _, h3, h4, _⟩, h => by
    obtain ⟨n, hn⟩ := Rin_head h4 h3
    exact absurd ((h y.f0 n).2 (by rw [OfL, if_pos rfl]; exact hn)) (Rin_nil _)
  | x :: xs, [], _, ⟨_, _, h3, h4, _⟩, _, h => by
    obtain ⟨n, hn⟩ := Rin_head h4 h3
    exact absurd ((h x.f0 n).1 (by rw [OfL, if_pos rfl]; exact hn)) (Rin_nil _)
  | x :: xs, y :: ys, b, ⟨hx1, hx2, hx3, hx4, hx5⟩, ⟨hy1, hy2, hy3, hy4, hy5⟩, h => by
    have e0 : x.f0 = y.f0 := by
      obtain ⟨n, hn⟩ := Rin_head hx4 hx3
      obtain ⟨m, hm⟩ := Rin_head hy4 hy3
      have a1 := (h x.f0 n).1 (by rw [OfL, if_pos rfl]; exact hn)
      have a2 := (h y.f0 m).2 (by rw [OfL, if_pos rfl]; exact hm)
      rcases Int.lt_trichotomy x.f0 y.f0 with g | g | g
      · rw [OfL, if_neg (by omega), OfL_lo hy5 (by omega)] at a1
        exact absurd a1 (Rin_nil _)
      · exact g
      · rw [OfL, if_neg (by omega), OfL_lo hx5 (by omega)] at a2
        exact absurd a2 (Rin_nil _)
    have e1 : x.f1 = y.f1 := uniqR _ _ (-1) hx4 hy4 (fun n => by
      have := h x.f0 n
      rwa [OfL, if_pos rfl, OfL, if_pos e0.symm] at this)
    have e2 : xs = ys := uniqS xs ys x.f0 hx5 (e0 ▸ hy5) (fun o n => by
      by_cases ho : x.f0 = o
      · rw [OfL_lo hx5 (by omega), OfL_lo hy5 (by omega)]
      · have := h o n
        rwa [OfL, if_neg ho, OfL, if_neg (by omega)] at this)
    obtain ⟨x0, x1⟩ := x
    obtain ⟨y0, y1⟩ := y
    simp only at e0 e1
    rw [e0, e1, e2]
/-- The lists with other intervals of an origin. -/
def putS (o : Int) (v : List S47) : List S45 → List S45
  | [] => [⟨o, v⟩]
  | s :: ss => if s.f0 < o then s :: putS o v ss else if s.f0 = o then ⟨o, v⟩ :: ss else ⟨o, v⟩ :: s :: ss
theorem putS_WS : ∀ {l : List S45} {b o : Int} {v : List S47}, WS b l → b < o → o ≤ 59 → v ≠ [] → WR (-1) v → WS b (putS o v l)
  | [], _, _, _, _, h1, h2, h3, h4 => ⟨h1, h2, h3, h4, trivial⟩
  | s :: ss, b, o, v, ⟨g1, g2, g3, g4, g5⟩, h1, h2, h3, h4 => by
    rw [putS]
    split
    · exact ⟨g1, g2, g3, g4, putS_WS g5 (by assumption) h2 h3 h4⟩
    · split
      · rename_i he
        exact ⟨h1, h2, h3, h4, by simp only; rw [← he]; exact g5⟩
      · exact ⟨h1, h2, h3, h4, by simp only; omega, g2, g3, g4, g5⟩
theorem OfL_putS : ∀ (l : List S45) (o : Int) (v : List S47) (p : Int), OfL (putS o v l) p = if o = p then v else OfL l p
  | [], o, v, p => by simp only [putS, OfL]
  | s :: ss, o, v, p => by
    rw [putS]
    split
    · rw [OfL, OfL_putS ss o v p, OfL]
      by_cases h : s.f0 = p
      · rw [if_pos h, if_neg (by omega)]
        simp [h]
      · rw [if_neg h]
        simp [h]
    · split
      · rename_i he
        simp only [OfL]
        by_cases h : o = p
        · rw [if_pos h, if_pos h]
        · rw [if_neg h, if_neg h, if_neg (by omega)]
      · simp only [OfL]
theorem totL_putS : ∀ {l : List S45} {b : Int} (o : Int) (v : List S47), WS b l → totL (putS o v l) + (OfL l o).length = totL l + v.length
  | [], b, o, v, _ => by simp [putS, OfL, totL]
  | s :: ss, b, o, v, ⟨g1, g2, g3, g4, g5⟩ => by
    rw [putS]
    split
    · rw [OfL, if_neg (by omega), totL_cons, totL_cons]
      have := totL_putS o v g5
      omega
    · split
      · rename_i he
        rw [OfL, if_pos he, totL_cons, totL_cons]
        simp only
        omega
      · rw [OfL, if_neg (by assumption), OfL_lo g5 (by omega), totL_cons, totL_cons]
        simp only [List.length_nil]
        omega
theorem putR_ne {n : Int} {l : List S47} {b : Int} (h : WR b l) (hb : b + 1 < n) (hn : n ≤ 1000000000) : putR n l ≠ [] := fun he => by
  have := ((putR_spec h hb hn).2 n).2 (.inl rfl)
  rw [he] at this
  exact Rin_nil _ this
/-- What Add comes to. -/
def addL (l : List S45) (o n : Int) : List S45 := putS o (putR n (OfL l o)) l
theorem addL_WS {l : List S45} {o n : Int} (h : WS (-1) l) (ho : 0 ≤ o ∧ o ≤ 59) (hn : 1 ≤ n ∧ n ≤ 1000000000) : WS (-1) (addL l o n) :=
  putS_WS h (by omega) ho.2 (putR_ne (OfL_WR o h) (by omega) hn.2) (putR_spec (OfL_WR o h) (by omega) hn.2).1
theorem addL_in {l : List S45} {o n : Int} (h : WS (-1) l) (ho : 0 ≤ o ∧ o ≤ 59) (hn : 1 ≤ n ∧ n ≤ 1000000000) (p m : Int) : Rin (OfL (addL l o n) p) m ↔ (p = o ∧ m = n) ∨ Rin (OfL l p) m := by
  unfold addL
  rw [OfL_putS]
  by_cases hp : o = p
  · subst hp
    rw [if_pos rfl, (putR_spec (OfL_WR o h) (by omega) hn.2).2 m]
    simp
  · rw [if_neg hp]
    constructor
    · exact .inr
    · rintro (⟨h1, _⟩ | h1)
      · exact absurd h1.symm hp
      · exact h1
theorem addL_same {l : List S45} {o n : Int} (h : WS (-1) l) (ho : 0 ≤ o ∧ o ≤ 59) (hn : 1 ≤ n ∧ n ≤ 1000000000) (hr : Rin (OfL l o) n) : addL l o n = l :=
  uniqS _ _ (-1) (addL_WS h ho hn) h (fun p m => by
    rw [addL_in h ho hn]
    constructor
    · rintro (⟨rfl, rfl⟩ | h1)
      · exact hr
      · exact h1
    · exact .inr)
theorem addL_tot {l : List S45} {o n : Int} (h : WS (-1) l) (ho : 0 ≤ o ∧ o ≤ 59) (hn : 1 ≤ n ∧ n ≤ 1000000000) (hr : ¬ Rin (OfL l o) n) : (totL (addL l o n) : Int) = totL l + 1 - one (rinB (OfL l o) (n - 1)) - one (rinB (OfL l o) (n + 1)) := by
  have h1 := totL_putS o (putR n (OfL l o)) h
  have h2 := insR_len (OfL_WR o h) hr
  rw [← putR_insR (OfL_WR o h) (by omega) hn.2] at h2
  unfold addL
  omega
end Go.Proofs.Ytjibgfihfbdcaaa.Pl
