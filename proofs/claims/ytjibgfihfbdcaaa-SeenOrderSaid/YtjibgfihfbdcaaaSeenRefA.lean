/- Closed forms of the reference of package seen: Many, Few, Valid. -/
import Derived.Test.YtjibgfihfbdcaaaPSeenx9
import Derived.Test.YtjibgfihfbdcaaaSeenCl
namespace Go.Proofs.Ytjibgfihfbdcaaa.Pl
open Go.RowKit Go.Proofs.Ytjibgfihfbdcaaa.PSeen Go.Proofs.YtjibgfihfbdcaaaW.PrintWords
set_option linter.unusedVariables false
set_option linter.unusedSimpArgs false
theorem rmany_l0 (l : List S45) : ∀ (d i k s : Nat), i + d = l.length → d < k → s + totL (l.drop i) ≤ 9223372036854775807 → l.length ≤ 9223372036854775806 → slotmeshref26_Many.l0 k l (s : Int) (i : Int) = some ((s + totL (l.drop i) : Nat) : Int)
  | 0, i, k, s, hi, hk, hb, hl => by
    obtain ⟨k, rfl⟩ := pos_k hk
    simp only [slotmeshref26_Many.l0]
    rw [if_neg (by omega), List.drop_eq_nil_of_le (by omega)]
    simp [totL]
  | d + 1, i, k, s, hi, hk, hb, hl => by
    obtain ⟨k, rfl⟩ := pos_k hk
    have hlt : i < l.length := by omega
    have hd := List.drop_eq_getElem_cons hlt
    rw [hd, totL_cons] at hb
    simp only [slotmeshref26_Many.l0]
    rw [if_pos (by omega), if_pos (by omega), rd45 hlt, w64 (by omega) (by omega), up (by omega),
      show (s : Int) + (l[i].f1.length : Int) = ((s + l[i].f1.length : Nat) : Int) by omega, rmany_l0 l d (i + 1) k (s + l[i].f1.length) (by omega) (by omega) (by omega) hl, hd, totL_cons]
    congr 2
    omega
theorem rmany_cl {l : List S45} {k : Nat} (hk : l.length < k) (hb : totL l ≤ 9223372036854775807) (hl : l.length ≤ 9223372036854775806) : slotmeshref26_Many.f k l = some (totL l : Int) := by
  have := rmany_l0 l l.length 0 k 0 (by omega) hk (by simpa using hb) hl
  unfold slotmeshref26_Many.f
  simpa using this
/-- What is known of lists that can be read: each list of intervals is within the reach. -/
def Reach (l : List S45) : Prop := ∀ s ∈ l, s.f1.length ≤ 8796093022208
theorem reach_tot : ∀ (l : List S45), Reach l → totL l ≤ l.length * 8796093022208
  | [], _ => by simp [totL]
  | x :: xs, h => by
    have h1 := h x (by simp)
    have h2 := reach_tot xs (fun s hs => h s (by simp [hs]))
    rw [totL_cons, List.length_cons, Nat.add_mul]
    omega
theorem len_tot : ∀ (l : List S45) (i : Nat) (h : i < l.length), l[i].f1.length ≤ totL l
  | x :: xs, 0, h => by rw [totL_cons]; simp
  | x :: xs, i + 1, h => by
    have hl : i < xs.length := by simpa using h
    have := len_tot xs i hl
    rw [totL_cons]
    simp only [List.getElem_cons_succ]
    omega
def ltB : Option Int → Int → Bool
  | none, _ => true
  | some h, o => decide (h < o)
theorem okS1_eq (b : Option Int) (o : Int) (X : List S47) : okS1 b o X = (decide (0 ≤ o ∧ o ≤ 59) && (setsOk X && ltB b o)) := by cases b <;> rfl
theorem addR_ok {l : List S45} {o n : Int} (h : okV l = true ∧ (0 ≤ o ∧ o ≤ 59) ∧ (1 ≤ n ∧ n ≤ 1000000000)) : addR l o n = if rinB (OfL l o) n = true then (l, false, 0) else if totL (addL l o n) > 64 then ([], false, 10) else (addL l o n, true, 0) := if_pos h
theorem addR_bad {l : List S45} {o n : Int} (h : ¬ (okV l = true ∧ (0 ≤ o ∧ o ≤ 59) ∧ (1 ≤ n ∧ n ≤ 1000000000))) : addR l o n = ([], false, 1) := if_neg h
def fewB (l : List S45) : Bool := decide (l.length ≤ 100 ∧ totL l ≤ 100)
theorem few_cl {l : List S45} {k : Nat} (hk : 100 < k) (h : Reach l) : slotmeshref26_Few.f k l = some (fewB l) := by
  unfold slotmeshref26_Few.f fewB
  by_cases hl : l.length ≤ 100
  · have h2 := reach_tot l h
    rw [if_pos (by omega), rmany_cl (by omega) (by omega) (by omega)]
    simp only [Option.bind_some]
    congr 1
    exact decide_eq_decide.2 ⟨fun g => ⟨hl, by omega⟩, fun g => by omega⟩
  · rw [if_neg (by omega), decide_eq_false (fun g => hl g.1)]
theorem prevR_at {l : List S47} {j : Nat} (h : j < l.length) : prevR l (j + 1) = some l[j].f1 := by
  rw [prevR, List.getD_eq_getElem?_getD, List.getElem?_eq_getElem h]
  rfl
theorem rvalid_l1 (l : List S45) (i : Int) (o : Int) (X : List S47) (hX : X.length ≤ 1000000000) (r : Bool) (B : Nat) (hR : ∀ k, B ≤ k → slotmeshref26_Valid.l0 k l (wrap64 (i + 1)) = some r) : ∀ (d j k : Nat), j + d = X.length → B + d < k → (∀ h, prevR X j = some h → 1 ≤ h ∧ h ≤ 1000000000) →
    slotmeshref26_Valid.l1 k l i (j : Int) o X = some (okRs (prevR X j) (X.drop j) && r)
  | 0, j, k, hj, hk, hp => by
    obtain ⟨k, rfl⟩ := pos_k hk
    simp only [slotmeshref26_Valid.l1]
    rw [if_neg (by omega), List.drop_eq_nil_of_le (by omega), hR k (by omega)]
    cases prevR X j <;> rfl
  | d + 1, j, k, hj, hk, hp => by
    obtain ⟨k, rfl⟩ := pos_k hk
    have hlt : j < X.length := by omega
    simp only [slotmeshref26_Valid.l1]
    rw [if_pos (by omega), if_pos (by omega), rd47 hlt, okRs_step X hlt, List.getD_eq_getElem?_getD, List.getElem?_eq_getElem hlt, Option.getD_some, up (by omega)]
    by_cases c1 : X[j].f0 < 1
    · rw [if_pos c1, show Pl.okR1 (prevR X j) X[j].f0 X[j].f1 = false by unfold okR1; rw [decide_eq_false (by omega)]; rfl]
      rfl
    rw [if_neg c1]
    by_cases c2 : X[j].f0 > X[j].f1
    · rw [if_pos c2, show Pl.okR1 (prevR X j) X[j].f0 X[j].f1 = false by unfold okR1; rw [decide_eq_false (by omega)]; rfl]
      rfl
    rw [if_neg c2]
    by_cases c3 : X[j].f1 > 1000000000
    · rw [if_pos c3, show Pl.okR1 (prevR X j) X[j].f0 X[j].f1 = false by unfold okR1; rw [decide_eq_false (p := X[j].f1 ≤ 1000000000) (by omega), Bool.false_and, Bool.and_false]]
      rfl
    rw [if_neg c3]
    have hn : ∀ h, prevR X (j + 1) = some h → 1 ≤ h ∧ h ≤ 1000000000 := fun h hh => by
      rw [prevR_at hlt] at hh
      injection hh with hh
      omega
    have ih := rvalid_l1 l i o X hX r B hR d (j + 1) k (by omega) (by omega) hn
    have e1 : decide (1 ≤ X[j].f0 ∧ X[j].f0 ≤ X[j].f1) = true := decide_eq_true (by omega)
    have e2 : decide (X[j].f1 ≤ 1000000000) = true := decide_eq_true (by omega)
    cases j with
    | zero =>
      rw [if_neg (by omega), ih, show prevR X 0 = none from rfl, show Pl.okR1 none X[0].f0 X[0].f1 = true by unfold okR1; rw [e1, e2]; rfl]
      rfl
    | succ q =>
      have hq : q < X.length := by omega
      have hw : wrap64 (((q + 1 : Nat) : Int) - 1) = (q : Int) := by rw [w64 (by omega) (by omega)]; omega
      obtain ⟨p1, p2⟩ := hp _ (prevR_at hq)
      rw [hw, if_pos (by omega), if_pos (by omega), if_pos (by omega), rd47 hq, w64 (x := X[q].f1 + 2) (by omega) (by omega)]
      by_cases c4 : X[q + 1].f0 < X[q].f1 + 2
      · rw [if_pos c4, prevR_at hq, show Pl.okR1 (some X[q].f1) X[q + 1].f0 X[q + 1].f1 = false by unfold okR1; simp only; rw [w64 (by omega) (by omega), decide_eq_false (p := X[q].f1 + 1 < X[q + 1].f0) (by omega), Bool.and_false, Bool.and_false]]
        rfl
      · rw [if_neg c4, ih, prevR_at hq, show Pl.okR1 (some X[q].f1) X[q + 1].f0 X[q + 1].f1 = true by unfold okR1; simp only; rw [w64 (by omega) (by omega), e1, e2, decide_eq_true (p := X[q].f1 + 1 < X[q + 1].f0) (by omega)]; rfl]
        rfl
theorem prevS_at {l : List S45} {j : Nat} (h : j < l.length) : prevS l (j + 1) = some l[j].f0 := by
  rw [prevS, List.getD_eq_getElem?_getD, List.getElem?_eq_getElem h]
  rfl
theorem okS1_len {b : Option Int} {o : Int} {X : List S47} (h : X.length = 0) : okS1 b o X = false := by
  unfold okS1 setsOk
  rw [decide_eq_false (p := (X.length : Int) > 0) (by omega), Bool.false_and, Bool.false_and, Bool.and_false]
theorem rvalid_l0 (l : List S45) (hl : l.length ≤ 1000000000) (hz : totL l ≤ 1000000000) : ∀ (d i k : Nat), i + d = l.length → weigh (l.drop i) + l.length + 1 < k →
    slotmeshref26_Valid.l0 k l (i : Int) = some (okSs (prevS l i) (l.drop i) && decide (totL l ≤ 64))
  | 0, i, k, hi, hk => by
    obtain ⟨k, rfl⟩ := pos_k hk
    simp only [slotmeshref26_Valid.l0]
    rw [if_neg (by omega), List.drop_eq_nil_of_le (by omega), rmany_cl (by omega) (by omega) (by omega)]
    simp only [Option.bind_some]
    rw [show okSs (prevS l i) [] = true by cases prevS l i <;> rfl, Bool.true_and]
    congr 1
    exact decide_eq_decide.2 (by omega)
  | d + 1, i, k, hi, hk => by
    have hlt : i < l.length := by omega
    have hd := List.drop_eq_getElem_cons hlt
    rw [hd, weigh_cons] at hk
    obtain ⟨k, rfl⟩ : ∃ m, k = m + 2 := ⟨k - 2, by omega⟩
    have hle : l[i].f1.length ≤ totL l := len_tot l i hlt
    have ih := fun k hk => rvalid_l0 l hl hz d (i + 1) k (by omega) hk
    have hno : ∀ b : Bool, slotmeshref26_Valid.j1 (k + 1) l (i : Int) b l[i].f0 l[i].f1 = if b = true then some false else slotmeshref26_Valid.l1 k l (i : Int) 0 l[i].f0 l[i].f1 := fun b => by simp only [slotmeshref26_Valid.j1]
    have hin := rvalid_l1 l (i : Int) l[i].f0 l[i].f1 (by omega) (okSs (prevS l (i + 1)) (l.drop (i + 1)) && decide (totL l ≤ 64)) (weigh (l.drop (i + 1)) + l.length + 2) (fun k hk => by rw [up (by omega)]; exact ih k (by omega)) l[i].f1.length 0 k (by omega) (by omega) (fun h hh => by cases hh)
    rw [show ((0 : Nat) : Int) = 0 from rfl, List.drop_zero, show prevR l[i].f1 0 = none from rfl] at hin
    simp only [slotmeshref26_Valid.l0]
    rw [if_pos (by omega), if_pos (by omega), rd45 hlt, okSs_step l hlt, List.getD_eq_getElem?_getD, List.getElem?_eq_getElem hlt, Option.getD_some]
    simp only [hno, if_true, hin]
    by_cases c1 : l[i].f0 < 0
    · rw [if_pos c1, show okS1 (prevS l i) l[i].f0 l[i].f1 = false by unfold okS1; rw [decide_eq_false (by omega)]; rfl]
      rfl
    rw [if_neg c1]
    by_cases c2 : l[i].f0 ≥ 60
    · rw [if_pos c2, show okS1 (prevS l i) l[i].f0 l[i].f1 = false by unfold okS1; rw [decide_eq_false (by omega)]; rfl]
      rfl
    rw [if_neg c2]
    have e0 : decide (0 ≤ l[i].f0 ∧ l[i].f0 ≤ 59) = true := decide_eq_true (by omega)
    have fin : ∀ b : Option Int, ltB b l[i].f0 = true → (if ((l[i].f1.length : Int) == 0) = true then some false else some (okRs none l[i].f1 && (okSs (prevS l (i + 1)) (l.drop (i + 1)) && decide (totL l ≤ 64)))) = some (okS1 b l[i].f0 l[i].f1 && okSs (prevS l (i + 1)) (l.drop (i + 1)) && decide (totL l ≤ 64)) := fun b hb => by
      by_cases c5 : l[i].f1.length = 0
      · rw [if_pos (by simpa using c5), okS1_len c5, Bool.false_and, Bool.false_and]
      · rw [if_neg (by simpa using c5)]
        rw [okS1_eq, setsOk, e0, hb, decide_eq_true (p := (l[i].f1.length : Int) > 0) (by omega), Bool.true_and, Bool.true_and, Bool.and_true, Bool.and_assoc]
    cases i with
    | zero =>
      rw [if_neg (by omega)]
      exact fin none rfl
    | succ q =>
      have hq : q < l.length := by omega
      have hw : wrap64 (((q + 1 : Nat) : Int) - 1) = (q : Int) := by rw [w64 (by omega) (by omega)]; omega
      rw [hw, if_pos (by omega), if_pos (by omega), if_pos (by omega), rd45 hq]
      by_cases c4 : l[q + 1].f0 ≤ l[q].f0
      · rw [if_pos c4, prevS_at hq, show okS1 (some l[q].f0) l[q + 1].f0 l[q + 1].f1 = false by unfold okS1; simp only; rw [decide_eq_false (p := l[q].f0 < l[q + 1].f0) (by omega), Bool.and_false, Bool.and_false]]
        rfl
      · rw [if_neg c4, prevS_at hq]
        exact fin (some l[q].f0) (decide_eq_true (by omega))
theorem rvalid_cl {l : List S45} {k : Nat} (hk : totL l + 4 * l.length + 1 < k) (hl : l.length ≤ 1000000000) (hz : totL l ≤ 1000000000) : slotmeshref26_Valid.f k l = some (okV l) := by
  unfold slotmeshref26_Valid.f okV
  have := rvalid_l0 l hl hz l.length 0 k (by omega) (by rw [List.drop_zero, weigh_tot]; omega)
  rw [List.drop_zero] at this
  rw [Bool.and_comm]
  exact this
end Go.Proofs.Ytjibgfihfbdcaaa.Pl
