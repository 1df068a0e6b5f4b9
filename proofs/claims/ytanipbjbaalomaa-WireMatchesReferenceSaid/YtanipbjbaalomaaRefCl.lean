/- What the functions of the package slotmeshref04 come to, in closed form: the same as the package wire. -/
import Derived.Test.YtanipbjbaalomaaWireUp
namespace Go.Proofs.Ytanipbjbaalomaa.Pl
open Go.RowKit Go.Proofs.YtanipbjbaalomaaW.PrintWords Go.Proofs.YtanipbjbaalomaaW.PrintLast Go.Proofs.YtanipbjbaalomaaW.PrintMore Go.Proofs.Ytanipbjbaalomaa.PWire
set_option linter.unusedVariables false
set_option linter.unusedSimpArgs false
theorem digits_cl : ∀ (m k : Nat) (u : Int), m < k → m ≤ 6 → 0 ≤ u → u < 128 ^ (m + 1) → slotmeshref04_digits.f k u = some (dgF (m + 1) u) := by
  intro m
  induction m with
  | zero =>
    intro k u hk hm h0 h1
    obtain ⟨k, rfl⟩ : ∃ j, k = j + 1 := ⟨k - 1, by omega⟩
    have hu : u < 128 := by simpa using h1
    simp only [slotmeshref04_digits.f]
    rw [if_pos hu, Int.emod_eq_of_lt h0 (by omega)]
    simp [dgF, hu]
  | succ m ih =>
    intro k u hk hm h0 h1
    obtain ⟨k, rfl⟩ : ∃ j, k = j + 1 := ⟨k - 1, by omega⟩
    simp only [slotmeshref04_digits.f]
    rw [dgF]
    by_cases hu : u < 128
    · rw [if_pos hu, if_pos hu, Int.emod_eq_of_lt h0 (by omega)]
    · have h128 : u < 562949953421312 := by
        have h7 := pow128_le (m + 1) (by omega)
        omega
      rw [if_neg hu, if_neg hu, if_pos (by simp), tmod_nn h0, tdiv_nn h0, w64 (z := 128 + u % 128) (by omega) (by omega), w64 (z := u / 128) (by omega) (by omega), Int.emod_eq_of_lt (by omega) (by omega)]
      simp only [Option.bind_some]
      rw [ih k _ (by omega) (by omega) (by omega) (div_lt h1)]
      have hl := (dgF_len m (u / 128) (by omega) (div_lt h1)).2
      simp only [Option.bind_some]
      rw [if_pos (by simp only [List.length_append, List.length_singleton, List.length_nil]; omega), Int.add_comm]
      rfl
theorem text_cl {k : Nat} {n : Int} (hk : 7 ≤ k) (h : inNum n = true) : slotmeshref04_Text.f k n = some (wn n) := by
  have h2 := (inNum_iff n).1 h
  have hz := zig_lt h
  have hz0 := zig_nn n
  unfold slotmeshref04_Text.f
  by_cases hn : n < 0
  · have e : zig n = -2 * n - 1 := by unfold zig; rw [if_pos hn]
    rw [if_pos hn, w64 (z := -2 * n) (by omega) (by omega), w64 (by omega) (by omega), ← e, digits_cl 6 k _ (by omega) (by omega) hz0 (by rw [pow7]; exact hz)]
    rfl
  · have e : zig n = 2 * n := by unfold zig; rw [if_neg hn]
    rw [if_neg hn, w64 (by omega) (by omega), ← e, digits_cl 6 k _ (by omega) (by omega) hz0 (by rw [pow7]; exact hz)]
    rfl
theorem joined_cl {a b : List Int} (h : a.length + b.length < 140737488355328) : slotmeshref04_joined.f a b = some (a ++ b) := by
  unfold slotmeshref04_joined.f
  rw [if_pos (by simp only [List.length_nil]; omega)]
  simp only [Option.bind_some, List.nil_append]
  rw [if_pos h]
theorem written_cl (n : Int) : slotmeshref04_Written.f n = some (inNum n) := isNumber_cl n
theorem refPutNumber_cl {k : Nat} {l : List Int} (n : Int) (hk : 7 ≤ k) (hl : l.length + 10 < 140737488355328) : slotmeshref04_PutNumber.f k l n = some (putNum l n) := by
  unfold slotmeshref04_PutNumber.f putNum
  rw [written_cl]
  simp only [Option.bind_some]
  by_cases h : inNum n = true
  · have := (wn_len h).2
    rw [if_pos h, if_pos h, text_cl hk h]
    simp only [Option.bind_some]
    rw [joined_cl (by omega)]
    rfl
  · rw [if_neg h, if_neg h]
theorem refPutBytes_cl {k : Nat} {l x : List Int} (hk : 7 ≤ k) (hl : l.length + 10000 < 140737488355328) : slotmeshref04_PutBytes.f k l x = some (putByt l x) := by
  unfold slotmeshref04_PutBytes.f putByt
  by_cases h : x.length ≤ 4000
  · have := (wn_len (len_inNum h)).2
    rw [if_neg (by omega), if_pos h, text_cl hk (len_inNum h)]
    simp only [Option.bind_some]
    rw [joined_cl (by omega)]
    simp only [Option.bind_some]
    rw [joined_cl (by rw [List.length_append]; omega)]
    rfl
  · rw [if_pos (by omega), if_neg h]
/-- How many bytes a number has: -1 if its end is not there, 0 if it is too long. -/
def lg : Nat → List Int → Int
  | i, [] => if i < 7 then -1 else 0
  | i, c :: cs => if i < 7 then (if c < 128 then (i : Int) + 1 else lg (i + 1) cs) else 0
def sm : Nat → List Int → Int
  | 0, _ => 0
  | n + 1, [] => 0
  | n + 1, c :: cs => c % 128 + 128 * sm n cs
theorem rd_at {l : List Int} {i : Nat} (h : i < l.length) : rd l (i : Int) = l[i] := by
  simp [rd, List.getD_eq_getElem?_getD, List.getElem?_eq_getElem h]
theorem rd_at2 {l : List Int} {a i : Nat} (h : a + i < l.length) : rd l ((a : Int) + (i : Int)) = l[a + i] := by
  rw [← Int.natCast_add]
  exact rd_at h
theorem length_cl (l : List Int) (a : Nat) (hl : l.length ≤ 100000000) (ha : a ≤ l.length) : ∀ (d i k : Nat), 7 - i = d → i ≤ 7 → d < k → slotmeshref04_length.l0 k l (a : Int) (i : Int) = some (lg i (l.drop (a + i))) := by
  intro d
  induction d with
  | zero =>
    intro i k hd hi hk
    obtain ⟨k, rfl⟩ : ∃ j, k = j + 1 := ⟨k - 1, by omega⟩
    simp only [slotmeshref04_length.l0]
    rw [if_neg (by omega)]
    cases l.drop (a + i) with
    | nil => simp [lg]; omega
    | cons c cs => simp [lg]; omega
  | succ d ih =>
    intro i k hd hi hk
    obtain ⟨k, rfl⟩ : ∃ j, k = j + 1 := ⟨k - 1, by omega⟩
    simp only [slotmeshref04_length.l0]
    rw [if_pos (by omega), w64 (z := (a : Int) + i) (by omega) (by omega)]
    by_cases hlt : a + i < l.length
    · rw [if_neg (by omega), if_pos (by omega), if_pos (by omega), List.drop_eq_getElem_cons hlt]
      rw [rd_at2 hlt, w64 (z := (i : Int) + 1) (by omega) (by omega)]
      simp only [lg]
      rw [if_pos (show i < 7 by omega)]
      by_cases hc : l[a + i] < 128
      · rw [if_pos hc, if_pos hc]
      · rw [if_neg hc, if_neg hc, show ((i : Int) + 1) = ((i + 1 : Nat) : Int) from rfl, ih (i + 1) k (by omega) (by omega) (by omega), Nat.add_assoc]
    · rw [if_pos (by omega), List.drop_of_length_le (by omega)]
      simp only [lg]
      rw [if_pos (by omega)]
theorem lg_range : ∀ (cs : List Int) (i : Nat), i ≤ 7 → lg i cs = -1 ∨ lg i cs = 0 ∨ ((i : Int) < lg i cs ∧ lg i cs ≤ 7 ∧ lg i cs - i ≤ cs.length) := by
  intro cs
  induction cs with
  | nil => intro i hi; simp only [lg]; split <;> simp
  | cons c cs ih =>
    intro i hi
    simp only [lg]
    split
    · split
      · right; right; simp only [List.length_cons]; omega
      · rcases ih (i + 1) (by omega) with h | h | h
        · exact .inl h
        · exact .inr (.inl h)
        · right; right; simp only [List.length_cons]; omega
    · simp
theorem sm_bd : ∀ (n : Nat) (cs : List Int), 0 ≤ sm n cs ∧ sm n cs < 128 ^ n
  | 0, cs => by simp [sm]
  | n + 1, [] => by have := pow128_pos (n + 1); simp only [sm]; omega
  | n + 1, c :: cs => by have := sm_bd n cs; rw [pow_s]; simp only [sm]; omega
theorem numGo_lg (a : Int) : ∀ (cs : List Int) (u : Int) (i : Nat), i ≤ 6 → isB cs = true → numGo a u i cs =
    (if lg i cs = -1 then (0, 0, 11) else if lg i cs = 0 then (0, 0, 3)
     else if inNum (unzig (u + sm (lg i cs - i).toNat cs * 128 ^ i)) = true ∧ (0 < cs.getD ((lg i cs - i).toNat - 1) 0 ∨ lg i cs = 1) then (unzig (u + sm (lg i cs - i).toNat cs * 128 ^ i), a + lg i cs, 0) else (0, 0, 3)) := by
  intro cs
  induction cs with
  | nil =>
    intro u i hi hB
    have hlg : lg i [] = -1 := by simp only [lg]; rw [if_pos (by omega)]
    simp only [numGo]
    rw [hlg, if_pos rfl]
  | cons c cs ih =>
    intro u i hi hB
    obtain ⟨hc0, hc1, hB'⟩ := isB_cons hB
    simp only [numGo]
    by_cases hc : c < 128
    · have hlg : lg i (c :: cs) = (i : Int) + 1 := by simp only [lg]; rw [if_pos (show i < 7 by omega), if_pos hc]
      rw [hlg, if_neg (show ¬ 128 ≤ c by omega), if_neg (show ¬ (i : Int) + 1 = -1 by omega), if_neg (show ¬ (i : Int) + 1 = 0 by omega)]
      have e1 : ((i : Int) + 1 - i).toNat = 1 := by omega
      have e2 : sm 1 (c :: cs) = c := by simp only [sm]; omega
      rw [e1, e2]
      simp only [Nat.sub_self, List.getD_cons_zero]
      have e3 : (inNum (unzig (u + c * 128 ^ i)) && (decide (0 < c) || decide (i = 0))) = true ↔ inNum (unzig (u + c * 128 ^ i)) = true ∧ (0 < c ∨ (i : Int) + 1 = 1) := by
        simp only [Bool.and_eq_true, Bool.or_eq_true, decide_eq_true_eq]
        constructor
        · rintro ⟨h1, h2⟩; exact ⟨h1, by omega⟩
        · rintro ⟨h1, h2⟩; exact ⟨h1, by omega⟩
      by_cases ht : inNum (unzig (u + c * 128 ^ i)) = true ∧ (0 < c ∨ (i : Int) + 1 = 1)
      · rw [if_pos (e3.2 ht), if_pos ht, Int.add_assoc]
      · rw [if_neg (fun hh => ht (e3.1 hh)), if_neg ht]
    · have hlg : lg i (c :: cs) = lg (i + 1) cs := by simp only [lg]; rw [if_pos (show i < 7 by omega), if_neg hc]
      rw [hlg, if_pos (by omega)]
      by_cases h6 : i = 6
      · subst h6
        have : lg 7 cs = 0 := by cases cs <;> simp [lg]
        rw [if_pos rfl, this, if_neg (by decide), if_pos rfl]
      · rw [if_neg h6, ih _ (i + 1) (by omega) hB']
        rcases lg_range cs (i + 1) (by omega) with h | h | h
        · rw [h]; simp
        · rw [h]; simp
        · obtain ⟨n, hn⟩ : ∃ n : Nat, lg (i + 1) cs = n := ⟨(lg (i + 1) cs).toNat, by omega⟩
          rw [hn] at h ⊢
          have n1 : ¬ ((n : Int) = -1) := by omega
          have n2 : ¬ ((n : Int) = 0) := by omega
          simp only [if_neg n1, if_neg n2]
          have e1 : ((n : Int) - (i : Nat)).toNat = ((n : Int) - (i + 1 : Nat)).toNat + 1 := by omega
          rw [e1]
          obtain ⟨m, hm⟩ : ∃ m : Nat, ((n : Int) - (i + 1 : Nat)).toNat = m + 1 := ⟨n - i - 2, by omega⟩
          rw [hm]
          have e2 : u + (c - 128) * 128 ^ i + sm (m + 1) cs * 128 ^ (i + 1) = u + sm (m + 1 + 1) (c :: cs) * 128 ^ i := by
            have : sm (m + 1 + 1) (c :: cs) = c % 128 + 128 * sm (m + 1) cs := rfl
            rw [this, Int.add_mul, pow_s, show c % 128 = c - 128 by omega, Int.mul_assoc 128, ← Int.mul_assoc (sm (m + 1) cs), Int.mul_comm (sm (m + 1) cs) 128, Int.mul_assoc 128]
            omega
          rw [e2]
          simp only [Nat.add_sub_cancel, List.getD_cons_succ]
theorem refLoop_cl (l : List Int) (a n : Nat) (hl : l.length ≤ 100000000) (hn : n ≤ 7) (han : a + n ≤ l.length) (hn1 : 1 ≤ n) (hB : isB l = true) :
    ∀ (j k : Nat), j ≤ n → j + 1 < k → slotmeshref04_Number.l0 k l (a : Int) (n : Int) (sm (n - j) (l.drop (a + j))) ((j : Int) - 1) =
      some (if inNum (unzig (sm n (l.drop a))) = true ∧ (0 < l.getD (a + n - 1) 0 ∨ n = 1) then (unzig (sm n (l.drop a)), (a : Int) + n, 0) else (0, 0, 3)) := by
  intro j
  induction j with
  | zero =>
    intro k hj hk
    obtain ⟨k, rfl⟩ : ∃ j, k = j + 1 := ⟨k - 1, by omega⟩
    simp only [slotmeshref04_Number.l0, Nat.sub_zero, Nat.add_zero]
    rw [if_neg (by omega)]
    obtain ⟨hs0, hs1⟩ := sm_bd n (l.drop a)
    have hs2 : sm n (l.drop a) < 562949953421312 := by
      have h7 := pow128_le (n - 1) (by omega)
      rw [show n - 1 + 1 = n by omega] at h7
      omega
    generalize sm n (l.drop a) = u at hs0 hs2
    have hbx := isB_at hB (a + n - 1)
    have hr : rd l ((a : Int) + n - 1) = l.getD (a + n - 1) 0 := by
      unfold rd
      congr 1
      omega
    have key : ∀ v : Int, v = unzig u → ((slotmeshref04_Written.f v).bind fun t272 => (if t272 = true then (if (n : Int) > 1 then (if 0 ≤ (wrap64 ((wrap64 ((a : Int) + n)) - 1)) then (if (wrap64 ((wrap64 ((a : Int) + n)) - 1)) < (l.length : Int) then (if (rd l (wrap64 ((wrap64 ((a : Int) + n)) - 1))) = 0 then (some ((0 : Int), (0 : Int), (3 : Int))) else (some (v, wrap64 ((a : Int) + n), 0))) else (none)) else (none)) else (some (v, wrap64 ((a : Int) + n), 0))) else (some (0, 0, 3)))) =
        some (if inNum (unzig u) = true ∧ (0 < l.getD (a + n - 1) 0 ∨ n = 1) then (unzig u, (a : Int) + n, 0) else (0, 0, 3)) := by
      intro v hv
      subst hv
      rw [written_cl]
      simp only [Option.bind_some]
      rw [w64 (z := (a : Int) + n) (by omega) (by omega), w64 (z := (a : Int) + n - 1) (by omega) (by omega), hr]
      by_cases hin : inNum (unzig u) = true
      · rw [if_pos hin]
        by_cases h1 : n = 1
        · rw [if_neg (by omega), if_pos ⟨hin, .inr h1⟩]
        · rw [if_pos (by omega), if_pos (by omega), if_pos (by omega)]
          by_cases hz : l.getD (a + n - 1) 0 = 0
          · rw [if_pos hz, if_neg (by rintro ⟨_, h | h⟩ <;> omega)]
          · rw [if_neg hz, if_pos ⟨hin, .inl (by omega)⟩]
      · rw [if_neg hin, if_neg (fun h => hin h.1)]
    by_cases hp : u % 2 = 1
    · rw [if_pos (by rw [tmod_nn hs0]; exact hp)]
      refine key _ ?_
      rw [tdiv_nn hs0, w64 (z := u / 2) (by omega) (by omega), w64 (z := -(u / 2)) (by omega) (by omega), w64 (by omega) (by omega)]
      unfold unzig
      rw [if_pos hp]
      omega
    · rw [if_neg (by rw [tmod_nn hs0]; exact hp)]
      refine key _ ?_
      rw [tdiv_nn hs0, w64 (z := u / 2) (by omega) (by omega)]
      unfold unzig
      rw [if_neg hp]
  | succ j ih =>
    intro k hj hk
    obtain ⟨k, rfl⟩ : ∃ j, k = j + 1 := ⟨k - 1, by omega⟩
    have hlt : a + j < l.length := by omega
    simp only [slotmeshref04_Number.l0]
    have ej : (((j + 1 : Nat) : Int) - 1) = (j : Int) := by omega
    rw [ej, if_pos (by omega), w64 (z := (a : Int) + j) (by omega) (by omega), if_pos (by omega), if_pos (by omega)]
    have hr : rd l ((a : Int) + j) = l[a + j] := rd_at2 hlt
    have hb := isB_at hB (a + j)
    rw [List.getD_eq_getElem?_getD, List.getElem?_eq_getElem hlt] at hb
    simp only [Option.getD_some] at hb
    obtain ⟨hs0, hs1⟩ := sm_bd (n - (j + 1)) (l.drop (a + (j + 1)))
    have hs2 : sm (n - (j + 1)) (l.drop (a + (j + 1))) < 562949953421312 := by
      rcases Nat.eq_zero_or_pos (n - (j + 1)) with h0 | h0
      · rw [h0]; simp [sm]
      · have h7 := pow128_le (n - (j + 1) - 1) (by omega)
        rw [show n - (j + 1) - 1 + 1 = n - (j + 1) by omega] at h7
        omega
    rw [hr, w64 (z := l[a + j]) (by omega) (by omega), tmod_nn (by omega), w64 (z := 128 * sm (n - (j + 1)) (l.drop (a + (j + 1)))) (by omega) (by omega), w64 (z := 128 * sm (n - (j + 1)) (l.drop (a + (j + 1))) + l[a + j] % 128) (by omega) (by omega), w64 (z := (j : Int) - 1) (by omega) (by omega)]
    have e : 128 * sm (n - (j + 1)) (l.drop (a + (j + 1))) + l[a + j] % 128 = sm (n - j) (l.drop (a + j)) := by
      rw [List.drop_eq_getElem_cons hlt, show n - j = (n - (j + 1)) + 1 by omega]
      simp only [sm]
      rw [Nat.add_assoc]
      omega
    rw [e]
    exact ih k (by omega) (by omega)
theorem refNumber_cl {k : Nat} {l : List Int} {a : Int} (hk : 20 ≤ k) (hB : isB l = true) (hl : l.length ≤ 100000000) : slotmeshref04_Number.f k l a = some (num l a) := by
  obtain ⟨k, rfl⟩ : ∃ j, k = j + 1 := ⟨k - 1, by omega⟩
  unfold slotmeshref04_Number.f num
  by_cases h1 : a < 0
  · rw [if_pos h1, if_pos h1]
    simp [slotmeshref04_Number.j0]
  rw [if_neg h1, if_neg h1]
  simp only [slotmeshref04_Number.j0]
  by_cases h2 : (l.length : Int) < a
  · rw [if_pos (by simpa using h2), if_pos h2]
  rw [if_neg (by simpa using h2), if_neg h2]
  obtain ⟨a, rfl⟩ := Int.eq_ofNat_of_zero_le (Int.not_lt.1 h1)
  have hlen := length_cl l a hl (by omega) 7 0 k (by omega) (by omega) (by omega)
  unfold slotmeshref04_length.f
  rw [show ((0 : Nat) : Int) = 0 from rfl] at hlen
  rw [hlen, Int.toNat_natCast, numGo_lg (a : Int) (l.drop a) 0 0 (by omega) (isB_drop hB a)]
  simp only [Option.bind_some, Nat.add_zero, Int.pow_zero, Int.mul_one, Int.zero_add]
  rcases lg_range (l.drop a) 0 (by omega) with h | h | h
  · rw [h]; simp
  · rw [h]; simp
  · obtain ⟨n, hn⟩ : ∃ n : Nat, lg 0 (l.drop a) = n := ⟨(lg 0 (l.drop a)).toNat, by omega⟩
    rw [hn] at h ⊢
    rw [List.length_drop] at h
    have n1 : ¬ ((n : Int) = -1) := by omega
    have n2 : ¬ ((n : Int) = 0) := by omega
    have n3 : ¬ ((n : Int) < 0) := by omega
    simp only [if_neg n1, if_neg n2, if_neg n3]
    rw [w64 (z := (n : Int) - 1) (by omega) (by omega)]
    have := refLoop_cl l a n hl (by omega) (by omega) (by omega) hB n k (Nat.le_refl _) (by omega)
    rw [Nat.sub_self] at this
    simp only [sm] at this
    rw [this]
    have e1 : ((n : Int) - ((0 : Nat) : Int)).toNat = n := by omega
    have e2 : (l.drop a).getD (n - 1) 0 = l.getD (a + n - 1) 0 := by
      rw [List.getD_eq_getElem?_getD, List.getElem?_drop, List.getD_eq_getElem?_getD]
      congr 2
      omega
    rw [e1, e2]
    have e3 : (inNum (unzig (sm n (l.drop a))) = true ∧ (0 < l.getD (a + n - 1) 0 ∨ n = 1)) ↔ (inNum (unzig (sm n (l.drop a))) = true ∧ (0 < l.getD (a + n - 1) 0 ∨ (n : Int) = 1)) := by
      constructor
      · rintro ⟨h1, h2⟩; exact ⟨h1, by omega⟩
      · rintro ⟨h1, h2⟩; exact ⟨h1, by omega⟩
    by_cases ht : inNum (unzig (sm n (l.drop a))) = true ∧ (0 < l.getD (a + n - 1) 0 ∨ n = 1)
    · rw [if_pos ht, if_pos (e3.1 ht)]
    · rw [if_neg ht, if_neg (fun hh => ht (e3.2 hh))]
theorem refBytes_cl {k : Nat} {l : List Int} {a : Int} (hk : 20 ≤ k) (hB : isB l = true) (hl : l.length ≤ 100000000) : slotmeshref04_Bytes.f k l a = some (byt l a) := by
  obtain ⟨k, rfl⟩ : ∃ j, k = j + 1 := ⟨k - 1, by omega⟩
  unfold slotmeshref04_Bytes.f byt
  rw [refNumber_cl hk hB (by omega)]
  simp only [Option.bind_some]
  obtain ⟨n, e, r, h⟩ : ∃ n e r, num l a = (n, e, r) := ⟨_, _, _, rfl⟩
  rw [h]
  simp only
  by_cases hr : r = 0
  · subst hr
    obtain ⟨g1, g2, g3, g4, g5, g6⟩ := num_ok hB h
    have g7 := wn_len g3
    rw [if_pos rfl, if_pos rfl]
    by_cases hn : n < 0
    · rw [if_pos hn, if_pos (.inl hn)]
      simp only [slotmeshref04_Bytes.j0, if_true]
    · rw [if_neg hn]
      simp only [slotmeshref04_Bytes.j0]
      by_cases hn2 : n > 4000
      · rw [if_pos (by simpa using hn2), if_pos (.inr hn2)]
      · rw [if_neg (by simpa using hn2), if_neg (show ¬ (n < 0 ∨ 4000 < n) by omega), w64 (z := e + n) (by omega) (by omega)]
        by_cases hs : (l.length : Int) - e < n
        · rw [if_pos (by omega), if_pos hs]
        · rw [if_neg (by omega), if_neg hs, if_pos (by omega), if_pos (by omega), if_pos (by omega), joined_cl (by simp only [List.length_nil, List.length_drop, List.length_take]; omega), take_drop_mid l (by omega) (by omega)]
          rfl
  · rw [if_neg hr, if_neg hr]
theorem dand {a b c d : Int} : (if a ≥ b then some (decide (c ≤ d)) else some false) = some (decide (b ≤ a ∧ c ≤ d)) := by
  by_cases h : a ≥ b
  · rw [if_pos h]; simp [show b ≤ a from h]
  · rw [if_neg h]; simp [show ¬ b ≤ a by omega]
theorem field_cl (i n : Int) : slotmeshref04_Field.f i n = some (if i = 0 then decide (1 ≤ n ∧ n ≤ 4) else if i = 1 then decide (0 ≤ n ∧ n ≤ 59) else if i = 2 then decide (-1 ≤ n ∧ n ≤ 59) else if i = 3 then decide (0 ≤ n ∧ n ≤ 1000000000) else decide (0 ≤ n ∧ n ≤ 2000000)) := by
  unfold slotmeshref04_Field.f
  simp only [dand]
  split
  · rfl
  · split
    · rfl
    · split
      · rfl
      · split <;> rfl
theorem rd0 (a0 a1 a2 a3 a4 : Int) : rd [a0, a1, a2, a3, a4] 0 = a0 ∧ rd [a0, a1, a2, a3, a4] 1 = a1 ∧ rd [a0, a1, a2, a3, a4] 2 = a2 ∧ rd [a0, a1, a2, a3, a4] 3 = a3 ∧ rd [a0, a1, a2, a3, a4] 4 = a4 := ⟨rfl, rfl, rfl, rfl, rfl⟩
theorem wN1 : wrap64 1 = 1 := w64 (by omega) (by omega)
theorem wN2 : wrap64 2 = 2 := w64 (by omega) (by omega)
theorem wN3 : wrap64 3 = 3 := w64 (by omega) (by omega)
theorem wN4 : wrap64 4 = 4 := w64 (by omega) (by omega)
theorem wN5 : wrap64 5 = 5 := w64 (by omega) (by omega)
theorem refValid_cl {k : Nat} (a0 a1 a2 a3 a4 : Int) (b : List Int) (hk : 10 ≤ k) : slotmeshref04_Valid.f k a0 a1 a2 a3 a4 b = some (okF a0 a1 a2 a3 a4 b) := by
  obtain ⟨k, rfl⟩ : ∃ j, k = j + 6 := ⟨k - 6, by omega⟩
  unfold slotmeshref04_Valid.f slotmeshref04_fields.f
  obtain ⟨r0, r1, r2, r3, r4⟩ := rd0 a0 a1 a2 a3 a4
  simp only [Option.bind_some]
  simp only [slotmeshref04_Valid.l0, List.length_cons, List.length_nil, field_cl, Option.bind_some, Nat.reduceAdd, Int.zero_add, wN1, wN2, wN3, wN4, wN5, Int.reduceAdd, r0, r1, r2, r3, r4]
  by_cases h0 : 1 ≤ a0 ∧ a0 ≤ 4
  case neg => simp [okF, h0]; omega
  by_cases h1 : 0 ≤ a1 ∧ a1 ≤ 59
  case neg => simp [okF, h0, h1]; omega
  by_cases h2 : -1 ≤ a2 ∧ a2 ≤ 59
  case neg => simp [okF, h0, h1, h2]; omega
  by_cases h3 : 0 ≤ a3 ∧ a3 ≤ 1000000000
  case neg => simp [okF, h0, h1, h2, h3]; omega
  by_cases h4 : 0 ≤ a4 ∧ a4 ≤ 2000000
  case neg => simp [okF, h0, h1, h2, h3, h4]; omega
  simp [okF, h0, h1, h2, h3, h4]
  omega
theorem refPack_cl {k : Nat} (a0 a1 a2 a3 a4 : Int) (b : List Int) (hk : 30 ≤ k) : slotmeshref04_Pack.f k a0 a1 a2 a3 a4 b = some (pck a0 a1 a2 a3 a4 b) := by
  obtain ⟨k, rfl⟩ : ∃ j, k = j + 6 := ⟨k - 6, by omega⟩
  unfold slotmeshref04_Pack.f pck
  rw [refValid_cl a0 a1 a2 a3 a4 b (by omega)]
  simp only [Option.bind_some]
  by_cases h : okF a0 a1 a2 a3 a4 b = true
  · have ho := of_decide_eq_true h
    rw [if_pos h, if_pos h]
    unfold slotmeshref04_fields.f
    obtain ⟨r0, r1, r2, r3, r4⟩ := rd0 a0 a1 a2 a3 a4
    have i0 : inNum a0 = true := by rw [inNum_iff]; omega
    have i1 : inNum a1 = true := by rw [inNum_iff]; omega
    have i2 : inNum a2 = true := by rw [inNum_iff]; omega
    have i3 : inNum a3 = true := by rw [inNum_iff]; omega
    have i4 : inNum a4 = true := by rw [inNum_iff]; omega
    have l0 := (wn_len i0).2
    have l1 := (wn_len i1).2
    have l2 := (wn_len i2).2
    have l3 := (wn_len i3).2
    have l4 := (wn_len i4).2
    simp only [Option.bind_some, slotmeshref04_Pack.l0, List.length_cons, List.length_nil, Nat.reduceAdd, Int.zero_add, wN1, wN2, wN3, wN4, wN5, Int.reduceAdd, r0, r1, r2, r3, r4]
    rw [text_cl (by omega) i0, text_cl (by omega) i1, text_cl (by omega) i2, text_cl (by omega) i3, text_cl (by omega) i4]
    simp only [Option.bind_some, List.nil_append]
    rw [if_pos (by simp), if_pos (by simp), if_pos (by omega), if_pos (by simp), if_pos (by simp), if_pos (by omega), if_pos (by simp), if_pos (by simp), if_pos (by simp only [List.length_append]; omega), if_pos (by simp), if_pos (by simp), if_pos (by simp only [List.length_append]; omega), if_pos (by simp), if_pos (by simp), if_pos (by simp only [List.length_append]; omega), if_neg (by simp)]
    rw [refPutBytes_cl (by omega) (by simp only [List.length_append]; omega)]
    simp only [Option.bind_some]
    unfold putByt
    rw [if_pos (by omega)]
    rfl
  · rw [if_neg h, if_neg h]
theorem nx_cases (l : List Int) (lo hi a : Int) : (nx l lo hi (a, 0) = ((num l a).1, (num l a).2.1, if (num l a).2.2 = 0 then (if lo ≤ (num l a).1 ∧ (num l a).1 ≤ hi then 0 else 3) else (num l a).2.2)) := by
  unfold nx
  rw [if_pos rfl]
  simp only [Prod.mk.injEq, true_and]
  by_cases h : (num l a).2.2 = 0
  · by_cases h2 : lo ≤ (num l a).1 ∧ (num l a).1 ≤ hi
    · rw [if_neg (fun hh => hh.2 h2), if_pos h, if_pos h2, h]
    · rw [if_pos ⟨h, h2⟩, if_pos h, if_neg h2]
  · rw [if_neg (fun hh => h hh.1), if_neg h]
theorem u_err {l : List Int} {lo hi : Int} {s : Int × Int} (h : s.2 ≠ 0) : (nx l lo hi s).2.2 = s.2 := by
  obtain ⟨a, r⟩ := s
  rw [nx_err h]
theorem q3 {l : List Int} {r : Int} (h : (u3 l).2.2 = r) (hr : r ≠ 0) : (u4 l).2.2 = r := by unfold u4; rw [u_err (by rw [h]; exact hr), h]
theorem q2 {l : List Int} {r : Int} (h : (u2 l).2.2 = r) (hr : r ≠ 0) : (u4 l).2.2 = r := q3 (by unfold u3; rw [u_err (by rw [h]; exact hr), h]) hr
theorem q1 {l : List Int} {r : Int} (h : (u1 l).2.2 = r) (hr : r ≠ 0) : (u4 l).2.2 = r := q2 (by unfold u2; rw [u_err (by rw [h]; exact hr), h]) hr
theorem q0 {l : List Int} {r : Int} (h : (u0 l).2.2 = r) (hr : r ≠ 0) : (u4 l).2.2 = r := q1 (by unfold u1; rw [u_err (by rw [h]; exact hr), h]) hr
theorem upk_bad {l : List Int} {r : Int} (h : (u4 l).2.2 = r) (hr : r ≠ 0) : upk l = (0, 0, 0, 0, 0, [], r) := by unfold upk; rw [if_neg (by rw [h]; exact hr), h]
theorem refStep {l : List Int} (hB : isB l = true) (hl : l.length ≤ 100000000) (j : Nat) (x4 : List Int) (a i lo hi : Int) (hj : 20 ≤ j) (hi5 : i < 5) (hi0 : -1 < i) (hx : x4.length ≤ 10)
    (hf : ∀ n, slotmeshref04_Field.f i n = some (decide (lo ≤ n ∧ n ≤ hi))) :
      (∀ r, (nx l lo hi (a, 0)).2.2 = r → r ≠ 0 → slotmeshref04_Unpack.l0 (j + 1) l x4 a i = some (0, 0, 0, 0, 0, [], r)) ∧
      (∀ n e, nx l lo hi (a, 0) = (n, e, 0) → slotmeshref04_Unpack.l0 (j + 1) l x4 a i = slotmeshref04_Unpack.l0 j l (x4 ++ [n]) e (i + 1)) := by
  have hu := nx_cases l lo hi a
  simp only [slotmeshref04_Unpack.l0]
  rw [if_pos hi5, refNumber_cl (by omega) hB hl, w64 (z := i + 1) (by omega) (by omega)]
  obtain ⟨n', e', r', h⟩ : ∃ n' e' r', num l a = (n', e', r') := ⟨_, _, _, rfl⟩
  rw [h] at hu ⊢
  simp only [Option.bind_some] at hu ⊢
  rw [hu, hf n']
  by_cases hr : r' = 0
  · rw [if_pos hr, if_pos hr]
    simp only [Option.bind_some]
    by_cases hb : lo ≤ n' ∧ n' ≤ hi
    · rw [if_pos hb, if_pos (decide_eq_true hb), if_pos (by omega)]
      constructor
      · intro r h1 h2; exact absurd h1.symm h2
      · intro n e h1; cases h1; rfl
    · rw [if_neg hb, if_neg (by simpa using hb)]
      constructor
      · intro r h1 h2; rw [← h1]
      · intro n e h1; cases h1
  · rw [if_neg hr, if_neg hr]
    constructor
    · intro r h1 h2; simp only at h1; rw [h1]
    · intro n e h1; cases h1; exact absurd rfl hr
theorem f0 (n : Int) : slotmeshref04_Field.f 0 n = some (decide (1 ≤ n ∧ n ≤ 4)) := by rw [field_cl]; rfl
theorem f1 (n : Int) : slotmeshref04_Field.f 1 n = some (decide (0 ≤ n ∧ n ≤ 59)) := by rw [field_cl]; rfl
theorem f2 (n : Int) : slotmeshref04_Field.f 2 n = some (decide (-1 ≤ n ∧ n ≤ 59)) := by rw [field_cl]; rfl
theorem f3 (n : Int) : slotmeshref04_Field.f 3 n = some (decide (0 ≤ n ∧ n ≤ 1000000000)) := by rw [field_cl]; rfl
theorem f4 (n : Int) : slotmeshref04_Field.f 4 n = some (decide (0 ≤ n ∧ n ≤ 2000000)) := by rw [field_cl]; rfl
theorem byt_end {l : List Int} {a : Int} (hB : isB l = true) (h : (byt l a).2.2 = 0) : (byt l a).2.1 ≤ l.length := by
  obtain ⟨n, e, r, hn⟩ : ∃ n e r, num l a = (n, e, r) := ⟨_, _, _, rfl⟩
  unfold byt at h ⊢
  rw [hn] at h ⊢
  simp only at h ⊢
  by_cases hr : r = 0
  · rw [if_pos hr] at h ⊢
    by_cases h1 : n < 0 ∨ 4000 < n
    · rw [if_pos h1]; simp
    · rw [if_neg h1] at h ⊢
      by_cases h2 : (l.length : Int) - e < n
      · rw [if_pos h2]; simp
      · rw [if_neg h2]; simp only; omega
  · rw [if_neg hr]; simp
theorem refUnpack_cl {k : Nat} {l : List Int} (hk : 40 ≤ k) (hB : isB l = true) (hl : l.length ≤ 100000000) : slotmeshref04_Unpack.f k l = some (upk l) := by
  obtain ⟨k, rfl⟩ : ∃ j, k = j + 1 + 1 + 1 + 1 + 1 + 1 := ⟨k - 6, by omega⟩
  unfold slotmeshref04_Unpack.f
  obtain ⟨s0, t0⟩ := refStep hB hl (k + 1 + 1 + 1 + 1 + 1) [] 0 0 1 4 (by omega) (by omega) (by omega) (by simp) f0
  obtain ⟨n0, e0, r0, h0⟩ : ∃ n e r, u0 l = (n, e, r) := ⟨_, _, _, rfl⟩
  by_cases hr0 : r0 = 0
  case neg => rw [s0 r0 (show (u0 l).2.2 = r0 by rw [h0]) hr0, upk_bad (q0 (by rw [h0]) hr0) hr0]
  subst hr0
  rw [t0 n0 e0 h0]
  obtain ⟨s1, t1⟩ := refStep hB hl (k + 1 + 1 + 1 + 1) ([] ++ [n0]) e0 (0 + 1) 0 59 (by omega) (by omega) (by omega) (by simp) (fun n => by rw [show (0 + 1 : Int) = 1 from by decide]; exact f1 n)
  obtain ⟨n1, e1, r1, h1⟩ : ∃ n e r, u1 l = (n, e, r) := ⟨_, _, _, rfl⟩
  have g1 : u1 l = nx l 0 59 (e0, 0) := by unfold u1; rw [h0]
  by_cases hr1 : r1 = 0
  case neg => rw [s1 r1 (by rw [← g1, h1]) hr1, upk_bad (q1 (by rw [h1]) hr1) hr1]
  subst hr1
  rw [t1 n1 e1 (by rw [← g1, h1])]
  obtain ⟨s2, t2⟩ := refStep hB hl (k + 1 + 1 + 1) ([] ++ [n0] ++ [n1]) e1 (0 + 1 + 1) (-1) 59 (by omega) (by omega) (by omega) (by simp) (fun n => by rw [show (0 + 1 + 1 : Int) = 2 from by decide]; exact f2 n)
  obtain ⟨n2, e2, r2, h2⟩ : ∃ n e r, u2 l = (n, e, r) := ⟨_, _, _, rfl⟩
  have g2 : u2 l = nx l (-1) 59 (e1, 0) := by unfold u2; rw [h1]
  by_cases hr2 : r2 = 0
  case neg => rw [s2 r2 (by rw [← g2, h2]) hr2, upk_bad (q2 (by rw [h2]) hr2) hr2]
  subst hr2
  rw [t2 n2 e2 (by rw [← g2, h2])]
  obtain ⟨s3, t3⟩ := refStep hB hl (k + 1 + 1) ([] ++ [n0] ++ [n1] ++ [n2]) e2 (0 + 1 + 1 + 1) 0 1000000000 (by omega) (by omega) (by omega) (by simp) (fun n => by rw [show (0 + 1 + 1 + 1 : Int) = 3 from by decide]; exact f3 n)
  obtain ⟨n3, e3, r3, h3⟩ : ∃ n e r, u3 l = (n, e, r) := ⟨_, _, _, rfl⟩
  have g3 : u3 l = nx l 0 1000000000 (e2, 0) := by unfold u3; rw [h2]
  by_cases hr3 : r3 = 0
  case neg => rw [s3 r3 (by rw [← g3, h3]) hr3, upk_bad (q3 (by rw [h3]) hr3) hr3]
  subst hr3
  rw [t3 n3 e3 (by rw [← g3, h3])]
  obtain ⟨s4, t4⟩ := refStep hB hl (k + 1) ([] ++ [n0] ++ [n1] ++ [n2] ++ [n3]) e3 (0 + 1 + 1 + 1 + 1) 0 2000000 (by omega) (by omega) (by omega) (by simp) (fun n => by rw [show (0 + 1 + 1 + 1 + 1 : Int) = 4 from by decide]; exact f4 n)
  obtain ⟨n4, e4, r4, h4⟩ : ∃ n e r, u4 l = (n, e, r) := ⟨_, _, _, rfl⟩
  have g4 : u4 l = nx l 0 2000000 (e3, 0) := by unfold u4; rw [h3]
  by_cases hr4 : r4 = 0
  case neg => rw [s4 r4 (by rw [← g4, h4]) hr4, upk_bad (by rw [h4]) hr4]
  subst hr4
  rw [t4 n4 e4 (by rw [← g4, h4])]
  simp only [slotmeshref04_Unpack.l0]
  rw [if_neg (by omega), refBytes_cl (by omega) hB hl]
  unfold upk
  rw [h4, h0, h1, h2, h3]
  simp only [Option.bind_some, List.nil_append, List.cons_append, List.length_cons, List.length_nil]
  have hbe := byt_end (a := e4) hB
  obtain ⟨b, e, r, hb⟩ : ∃ b e r, byt l e4 = (b, e, r) := ⟨_, _, _, rfl⟩
  rw [hb] at hbe ⊢
  simp only at hbe ⊢
  by_cases hr : r = 0
  · rw [if_pos hr, if_pos hr]
    have hbe := hbe hr
    by_cases he : e = (l.length : Int)
    · rw [if_pos he, if_neg (show ¬ e < (l.length : Int) by omega), if_pos (by decide), if_pos (by decide), if_pos (by decide), if_pos (by decide), if_pos (by decide)]
      rfl
    · rw [if_neg he, if_pos (show e < (l.length : Int) by omega)]; rfl
  · rw [if_neg hr, if_neg hr]; rfl
end Go.Proofs.Ytanipbjbaalomaa.Pl
