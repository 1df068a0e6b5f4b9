/- Plain laws of numbers on the wire: what is written is read again, what is read is what is written, prefixes and continuations (no program in sight; numbers below 128^7). -/
import Derived.Test.YtanipbjbaalomaaNum
namespace Go.Proofs.Ytanipbjbaalomaa.Pl
open Go.RowKit
set_option linter.unusedVariables false
set_option linter.unusedSimpArgs false
def dgF : Nat → Int → List Int
  | 0, _ => []
  | k + 1, u => if u < 128 then [u] else (u % 128 + 128) :: dgF k (u / 128)
def dg (u : Int) : List Int := dgF 7 u
/-- The bytes of a number. -/
def wn (n : Int) : List Int := dg (zig n)
theorem pow_s (i : Nat) : (128 : Int) ^ (i + 1) = 128 * 128 ^ i := by rw [Int.pow_succ]; omega
theorem pow7 : (128 : Int) ^ 7 = 562949953421312 := by decide
theorem unzig_zig (n : Int) : unzig (zig n) = n := by unfold unzig zig; split <;> split <;> omega
theorem zig_unzig (u : Int) (h : 0 ≤ u) : zig (unzig u) = u := by unfold unzig zig; split <;> split <;> omega
theorem zig_nn (n : Int) : 0 ≤ zig n := by unfold zig; split <;> omega
theorem inNum_iff (n : Int) : inNum n = true ↔ -10000000000000 ≤ n ∧ n ≤ 10000000000000 := by simp [inNum]
theorem zig_lt {n : Int} (h : inNum n = true) : zig n < 562949953421312 := by rw [inNum_iff] at h; unfold zig; split <;> omega
theorem div_lt {k : Nat} {v : Int} (h : v < 128 ^ (k + 1)) : v / 128 < 128 ^ k := by rw [pow_s] at h; omega
theorem dgF_len : ∀ (k : Nat) (v : Int), 0 ≤ v → v < 128 ^ (k + 1) → 1 ≤ (dgF (k + 1) v).length ∧ (dgF (k + 1) v).length ≤ k + 1
  | 0, v, h0, h1 => by
    have : v < 128 := by simpa using h1
    simp [dgF, this]
  | k + 1, v, h0, h1 => by
    rw [dgF]
    split
    · simp
    · have := dgF_len k (v / 128) (by omega) (div_lt h1)
      simp only [List.length_cons]
      omega
theorem dgF_more : ∀ (k : Nat) (v : Int), 0 ≤ v → v < 128 ^ (k + 1) → ∀ j, dgF (k + 1 + j) v = dgF (k + 1) v
  | 0, v, h0, h1, j => by
    have : v < 128 := by simpa using h1
    rw [show 0 + 1 + j = j + 1 by omega, dgF, dgF, if_pos this, if_pos this]
  | k + 1, v, h0, h1, j => by
    rw [show k + 1 + 1 + j = (k + 1 + j) + 1 by omega, dgF, dgF]
    split
    · rfl
    · rw [dgF_more k (v / 128) (by omega) (div_lt h1) j]
theorem dgF_dg {k : Nat} {v : Int} (hk : k ≤ 6) (h0 : 0 ≤ v) (h1 : v < 128 ^ (k + 1)) : dgF (k + 1) v = dg v := by
  have := dgF_more k v h0 h1 (6 - k)
  rw [show k + 1 + (6 - k) = 7 by omega] at this
  exact this.symm
theorem dgF_isB : ∀ (k : Nat) (v : Int), 0 ≤ v → isB (dgF k v) = true
  | 0, v, h0 => rfl
  | k + 1, v, h0 => by
    rw [dgF]
    split
    · simp [isB]; omega
    · have := dgF_isB k (v / 128) (by omega)
      unfold isB at this ⊢
      simp only [List.all_cons, this, Bool.and_true]
      simp
      omega
theorem isB_append (l m : List Int) : isB (l ++ m) = (isB l && isB m) := by simp [isB]
theorem isB_take {l : List Int} (h : isB l = true) (k : Nat) : isB (l.take k) = true := by
  unfold isB at h ⊢
  rw [List.all_eq_true] at h ⊢
  exact fun x hx => h x (List.mem_of_mem_take hx)
theorem isB_drop {l : List Int} (h : isB l = true) (k : Nat) : isB (l.drop k) = true := by
  unfold isB at h ⊢
  rw [List.all_eq_true] at h ⊢
  exact fun x hx => h x (List.mem_of_mem_drop hx)
theorem isB_cons {c : Int} {l : List Int} (h : isB (c :: l) = true) : 0 ≤ c ∧ c < 256 ∧ isB l = true := by
  unfold isB at h ⊢
  simp only [List.all_cons, Bool.and_eq_true, decide_eq_true_eq] at h
  exact ⟨h.1.1, h.1.2, h.2⟩
theorem numGo_dg (a : Int) : ∀ (k : Nat) (u v : Int) (i : Nat) (t : List Int), i + k + 1 ≤ 7 → 0 ≤ u → u < 128 ^ i → 0 ≤ v → v < 128 ^ (k + 1) → (0 < v ∨ i = 0) →
    numGo a u i (dgF (k + 1) v ++ t) = if inNum (unzig (u + v * 128 ^ i)) = true then (unzig (u + v * 128 ^ i), a + i + (dgF (k + 1) v).length, 0) else (0, 0, 3) := by
  intro k
  induction k with
  | zero =>
    intro u v i t hi hu0 hu hv0 hv hvi
    have hv' : v < 128 := by simpa using hv
    have hd : dgF (0 + 1) v = [v] := by simp [dgF, hv']
    rw [hd]
    simp only [List.cons_append, List.nil_append, numGo]
    rw [if_neg (by omega)]
    have hb : (decide (0 < v) || decide (i = 0)) = true := by rcases hvi with h | h <;> simp [h]
    rw [hb, Bool.and_true]
    rfl
  | succ k ih =>
    intro u v i t hi hu0 hu hv0 hv hvi
    rw [dgF]
    by_cases hv' : v < 128
    · rw [if_pos hv']
      simp only [List.cons_append, List.nil_append, numGo]
      rw [if_neg (by omega)]
      have hb : (decide (0 < v) || decide (i = 0)) = true := by rcases hvi with h | h <;> simp [h]
      rw [hb, Bool.and_true]
      rfl
    · rw [if_neg hv']
      simp only [List.cons_append, numGo]
      rw [if_pos (by omega), if_neg (by omega)]
      have hp := pow128_pos i
      have e1 : u + (v % 128 + 128 - 128) * 128 ^ i = u + v % 128 * 128 ^ i := by rw [Int.add_sub_cancel]
      have hm0 : 0 ≤ v % 128 * 128 ^ i := Int.mul_nonneg (by omega) (by omega)
      have hm1 : v % 128 * 128 ^ i ≤ 127 * 128 ^ i := Int.mul_le_mul_of_nonneg_right (by omega) (by omega)
      have e2 : u + v % 128 * 128 ^ i + v / 128 * 128 ^ (i + 1) = u + v * 128 ^ i := by
        have hq : v = 128 * (v / 128) + v % 128 := by omega
        have h3 : v * 128 ^ i = 128 * (v / 128) * 128 ^ i + v % 128 * 128 ^ i := by
          rw [← Int.add_mul]
          exact congrArg (· * 128 ^ i) hq
        have h4 : v / 128 * 128 ^ (i + 1) = 128 * (v / 128) * 128 ^ i := by
          rw [pow_s, ← Int.mul_assoc, Int.mul_comm (v / 128) 128]
        omega
      rw [e1, ih (u + v % 128 * 128 ^ i) (v / 128) (i + 1) t (by omega) (by omega) (by rw [pow_s]; omega) (by omega) (div_lt hv) (.inl (by omega)), e2]
      simp only [List.length_cons, Int.natCast_add]
      split
      · refine Prod.ext rfl (Prod.ext ?_ rfl)
        simp only
        omega
      · rfl
/-- What was written is read again, whatever stands before and behind it. -/
theorem num_wn (b t : List Int) (n : Int) (h : inNum n = true) : num (b ++ wn n ++ t) (b.length : Int) = (n, (b.length : Int) + ((wn n).length : Int), 0) := by
  unfold num
  rw [if_neg (by omega), if_neg (by simp; omega), Int.toNat_natCast, List.append_assoc, List.drop_left]
  have := numGo_dg b.length 6 0 (zig n) 0 t (by omega) (by omega) (by simp) (zig_nn n) (by rw [pow7]; exact zig_lt h) (.inr rfl)
  rw [show dgF (6 + 1) (zig n) = wn n from rfl] at this
  rw [this]
  simp only [Int.pow_zero, Int.mul_one, Int.zero_add, unzig_zig, h, if_true]
  simp
theorem wn_len {n : Int} (h : inNum n = true) : 1 ≤ (wn n).length ∧ (wn n).length ≤ 7 := dgF_len 6 _ (zig_nn n) (by rw [pow7]; exact zig_lt h)
theorem wn_isB (n : Int) : isB (wn n) = true := dgF_isB 7 _ (zig_nn n)
theorem wn_one {n : Int} (h : inNum n = true) : (wn n).length = 1 ↔ -64 ≤ n ∧ n ≤ 63 := by
  unfold wn dg
  rw [show (7 : Nat) = 6 + 1 from rfl, dgF]
  by_cases hs : zig n < 128
  · rw [if_pos hs]
    unfold zig at hs
    split at hs <;> simp <;> omega
  · rw [if_neg hs]
    have h1 : 1 ≤ (dgF 6 (zig n / 128)).length := (dgF_len 5 _ (by have := zig_nn n; omega) (by have := zig_lt h; have := div_lt (k := 6) (v := zig n) (by rw [pow7]; exact this); exact this)).1
    unfold zig at hs
    simp only [List.length_cons]
    split at hs <;> omega
theorem numGo_ok (a : Int) : ∀ (cs : List Int) (u : Int) (i : Nat) (n e : Int), 0 ≤ u → u < 128 ^ i → i ≤ 6 → isB cs = true → numGo a u i cs = (n, e, 0) →
    ∃ (v : Int) (L : Nat), i + L + 1 ≤ 7 ∧ L + 1 ≤ cs.length ∧ 0 ≤ v ∧ v < 128 ^ (L + 1) ∧ (0 < v ∨ i = 0) ∧ cs.take (L + 1) = dgF (L + 1) v ∧ n = unzig (u + v * 128 ^ i) ∧ inNum n = true ∧ e = a + i + (L + 1 : Nat) := by
  intro cs
  induction cs with
  | nil => intro u i n e _ _ _ _ h; simp [numGo] at h
  | cons c cs ih =>
    intro u i n e hu0 hu hi hB h
    obtain ⟨hc0, hc1, hB'⟩ := isB_cons hB
    have hp := pow128_pos i
    simp only [numGo] at h
    by_cases h128 : 128 ≤ c
    · rw [if_pos h128] at h
      by_cases h6 : i = 6
      · rw [if_pos h6] at h; simp at h
      · rw [if_neg h6] at h
        have hm0 : 0 ≤ (c - 128) * 128 ^ i := Int.mul_nonneg (by omega) (by omega)
        have hm1 : (c - 128) * 128 ^ i ≤ 127 * 128 ^ i := Int.mul_le_mul_of_nonneg_right (by omega) (by omega)
        obtain ⟨v, L, h1, h2, h3, h4, h5, h7, h8, h9, h10⟩ := ih _ (i + 1) n e (by omega) (by rw [pow_s]; omega) (by omega) hB' h
        have hv : 0 < v := by rcases h5 with h | h; exact h; omega
        refine ⟨(c - 128) + 128 * v, L + 1, by omega, by simp only [List.length_cons]; omega, by omega, by rw [pow_s]; omega, .inl (by omega), ?_, ?_, h9, by rw [h10]; omega⟩
        · rw [dgF, if_neg (by omega), List.take_succ_cons, h7]
          congr 1
          · omega
          · congr 1; omega
        · rw [h8, pow_s]
          congr 1
          rw [Int.add_mul, ← Int.mul_assoc, Int.mul_comm v 128]
          omega
    · rw [if_neg h128] at h
      split at h
      · rename_i ht
        simp only [Prod.mk.injEq, and_true] at h
        simp only [Bool.and_eq_true, Bool.or_eq_true, decide_eq_true_eq] at ht
        obtain ⟨rfl, rfl⟩ := h
        refine ⟨c, 0, by omega, by simp, hc0, by simpa using (by omega : c < 128), ht.2, ?_, rfl, ht.1, by simp⟩
        simp [dgF]; omega
      · simp at h
/-- Whatever is read as a number is what is written for it. -/
theorem num_ok {l : List Int} {a n e : Int} (hB : isB l = true) (h : num l a = (n, e, 0)) :
    0 ≤ a ∧ a ≤ l.length ∧ inNum n = true ∧ e = a + (wn n).length ∧ e ≤ l.length ∧ (l.drop a.toNat).take (wn n).length = wn n := by
  unfold num at h
  by_cases h1 : a < 0
  · rw [if_pos h1] at h; simp at h
  rw [if_neg h1] at h
  by_cases h2 : (l.length : Int) < a
  · rw [if_pos h2] at h; simp at h
  rw [if_neg h2] at h
  obtain ⟨v, L, g1, g2, g3, g4, _, g6, g7, g8, g9⟩ := numGo_ok a _ 0 0 n e (by omega) (by simp) (by omega) (isB_drop hB _) h
  simp only [Int.pow_zero, Int.mul_one, Int.zero_add] at g7
  have hz : zig n = v := by rw [g7, zig_unzig v g3]
  have hw : wn n = dgF (L + 1) v := by unfold wn; rw [hz, dgF_dg (by omega) g3 g4]
  have hl : (wn n).length = L + 1 := by
    rw [hw, ← g6, List.length_take]; omega
  rw [List.length_drop] at g2
  refine ⟨by omega, by omega, g8, by rw [hl, g9]; simp, by rw [g9]; simp; omega, ?_⟩
  rw [hl, hw, g6]
theorem numGo_cut (a : Int) : ∀ (cs : List Int) (u : Int) (i : Nat) (n e : Int) (m : Nat), numGo a u i cs = (n, e, 0) → a + i + m < e → numGo a u i (cs.take m) = (0, 0, 11) := by
  intro cs
  induction cs with
  | nil => intro u i n e m h; simp [numGo] at h
  | cons c cs ih =>
    intro u i n e m h hm
    cases m with
    | zero => simp [numGo]
    | succ m =>
      simp only [numGo] at h
      rw [List.take_succ_cons]
      simp only [numGo]
      by_cases h128 : 128 ≤ c
      · rw [if_pos h128] at h ⊢
        by_cases h6 : i = 6
        · rw [if_pos h6] at h; simp at h
        · rw [if_neg h6] at h ⊢
          exact ih _ _ _ _ m h (by omega)
      · rw [if_neg h128] at h
        split at h
        · simp only [Prod.mk.injEq, and_true] at h
          omega
        · simp at h
theorem numGo_keep (a : Int) : ∀ (cs : List Int) (u : Int) (i : Nat) (n e : Int) (m : Nat), numGo a u i cs = (n, e, 0) → e ≤ a + i + m → ∀ t, numGo a u i (cs.take m ++ t) = (n, e, 0) := by
  intro cs
  induction cs with
  | nil => intro u i n e m h; simp [numGo] at h
  | cons c cs ih =>
    intro u i n e m h hm t
    simp only [numGo] at h
    have he : a + i + 1 ≤ e := by
      by_cases h128 : 128 ≤ c
      · rw [if_pos h128] at h
        by_cases h6 : i = 6
        · rw [if_pos h6] at h; simp at h
        · rw [if_neg h6] at h
          rcases (by omega : a + (i + 1 : Nat) + 0 < e ∨ e ≤ a + (i + 1 : Nat) + 0) with hh | hh
          · omega
          · exfalso
            have hx := ih _ (i + 1) n e 0 h (by omega) []
            simp [numGo] at hx
      · rw [if_neg h128] at h
        split at h
        · simp only [Prod.mk.injEq, and_true] at h
          omega
        · simp at h
    cases m with
    | zero => omega
    | succ m =>
      rw [List.take_succ_cons, List.cons_append]
      simp only [numGo]
      by_cases h128 : 128 ≤ c
      · rw [if_pos h128] at h ⊢
        by_cases h6 : i = 6
        · rw [if_pos h6] at h; simp at h
        · rw [if_neg h6] at h ⊢
          exact ih _ _ _ _ m h (by omega) t
      · rw [if_neg h128] at h ⊢
        exact h
/-- A beginning that holds the number whole. -/
theorem num_keep {l : List Int} {a n e : Int} {m : Nat} (h : num l a = (n, e, 0)) (hm : e ≤ m) (t : List Int) : num (l.take m ++ t) a = (n, e, 0) := by
  unfold num at h ⊢
  by_cases h1 : a < 0
  · rw [if_pos h1] at h; simp at h
  rw [if_neg h1] at h ⊢
  by_cases h2 : (l.length : Int) < a
  · rw [if_pos h2] at h; simp at h
  rw [if_neg h2] at h
  have hae : a ≤ e := by
    rcases (by omega : e < a ∨ a ≤ e) with hh | hh
    · have hx := numGo_keep a _ 0 0 n e 0 h (by omega) []
      simp [numGo] at hx
    · exact hh
  rw [if_neg (by simp only [List.length_append, List.length_take]; omega)]
  obtain ⟨b, rfl⟩ := Int.eq_ofNat_of_zero_le (Int.not_lt.1 h1)
  rw [Int.toNat_natCast] at h ⊢
  have hb : b ≤ (l.take m).length := by rw [List.length_take]; omega
  rw [List.drop_append_of_le_length hb, List.drop_take]
  exact numGo_keep b _ 0 0 n e (m - b) h (by omega) t
/-- A beginning that cuts the number. -/
theorem num_cut {l : List Int} {a n e : Int} {m : Nat} (h : num l a = (n, e, 0)) (hm : m < e) (ham : a ≤ m) (hml : m ≤ l.length) : num (l.take m) a = (0, 0, 11) := by
  unfold num at h ⊢
  by_cases h1 : a < 0
  · rw [if_pos h1] at h; simp at h
  rw [if_neg h1] at h ⊢
  by_cases h2 : (l.length : Int) < a
  · rw [if_pos h2] at h; simp at h
  rw [if_neg h2] at h
  rw [if_neg (by rw [List.length_take]; omega)]
  obtain ⟨b, rfl⟩ := Int.eq_ofNat_of_zero_le (Int.not_lt.1 h1)
  rw [Int.toNat_natCast] at h ⊢
  rw [List.drop_take]
  exact numGo_cut b _ 0 0 n e (m - b) h (by omega)
end Go.Proofs.Ytanipbjbaalomaa.Pl
