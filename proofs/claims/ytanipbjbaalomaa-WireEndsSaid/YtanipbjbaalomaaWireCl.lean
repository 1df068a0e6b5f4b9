/- What the functions of the packages wire and slotmeshref04 come to, in closed form (plain Lean; the printed functions' names). -/
import Derived.Test.YtanipbjbaalomaaDig
import Derived.Test.YtanipbjbaalomaaPWirex4
namespace Go.Proofs.Ytanipbjbaalomaa.Pl
open Go.RowKit Go.Proofs.YtanipbjbaalomaaW.PrintWords Go.Proofs.YtanipbjbaalomaaW.PrintLast Go.Proofs.YtanipbjbaalomaaW.PrintMore Go.Proofs.Ytanipbjbaalomaa.PWire
set_option linter.unusedVariables false
set_option linter.unusedSimpArgs false
theorem w64 {z : Int} (h0 : -9223372036854775808 ≤ z) (h1 : z < 9223372036854775808) : wrap64 z = z := by unfold wrap64; omega
theorem tmod_nn {a : Int} (h : 0 ≤ a) (b : Int) : Int.tmod a b = a % b := Int.tmod_eq_emod_of_nonneg h
theorem tdiv_nn {a : Int} (h : 0 ≤ a) (b : Int) : Int.tdiv a b = a / b := Int.tdiv_eq_ediv_of_nonneg h
theorem zigzag_cl {n : Int} (h0 : -1000000000000000 ≤ n) (h1 : n ≤ 1000000000000000) : wire_zigzag.f n = some (zig n) := by
  unfold wire_zigzag.f zig
  split
  · rw [w64 (z := -2 * n) (by omega) (by omega), w64 (by omega) (by omega)]
  · rw [w64 (by omega) (by omega)]
theorem put_cl : ∀ (m k : Nat) (l : List Int) (u : Int), m < k → m ≤ 6 → 0 ≤ u → u < 128 ^ (m + 1) → l.length + m < 140737488355328 → wire_put.l0 k l u = some (l ++ dgF (m + 1) u) := by
  intro m
  induction m with
  | zero =>
    intro k l u hk hm h0 h1 hl
    obtain ⟨k, rfl⟩ : ∃ j, k = j + 1 := ⟨k - 1, by omega⟩
    have hu : u < 128 := by simpa using h1
    simp only [wire_put.l0]
    rw [if_neg (by omega), if_pos (by omega), Int.emod_eq_of_lt h0 (by omega)]
    simp [dgF, hu]
  | succ m ih =>
    intro k l u hk hm h0 h1 hl
    obtain ⟨k, rfl⟩ : ∃ j, k = j + 1 := ⟨k - 1, by omega⟩
    simp only [wire_put.l0]
    rw [dgF]
    by_cases hu : u < 128
    · rw [if_neg (by omega), if_pos (by omega), if_pos hu, Int.emod_eq_of_lt h0 (by omega)]
    · rw [if_pos (by omega), if_pos (by omega), if_neg hu, tmod_nn h0, w64 (by omega) (by omega), Int.emod_eq_of_lt (by omega) (by omega)]
      rw [ih k _ _ (by omega) (by omega) (by omega) (div_lt h1) (by simp only [List.length_append, List.length_singleton]; omega)]
      simp
theorem put_dg {k : Nat} {l : List Int} {u : Int} (hk : 7 ≤ k) (h0 : 0 ≤ u) (h1 : u < 562949953421312) (hl : l.length + 6 < 140737488355328) : wire_put.f k l u = some (l ++ dg u) :=
  put_cl 6 k l u (by omega) (by omega) h0 (by rw [pow7]; exact h1) hl
theorem isNumber_cl (n : Int) : wire_isNumber.f n = some (inNum n) := by
  unfold wire_isNumber.f inNum
  split
  · rename_i h; simp [show -10000000000000 ≤ n from h]
  · rename_i h; simp; omega
/-- PutNumber. -/
def putNum (l : List Int) (n : Int) : List Int × Int := if inNum n = true then (l ++ wn n, 0) else ([], 3)
theorem putNumber_cl {k : Nat} {l : List Int} (n : Int) (hk : 7 ≤ k) (hl : l.length + 6 < 140737488355328) : wire_PutNumber.f k l n = some (putNum l n) := by
  unfold wire_PutNumber.f putNum
  rw [isNumber_cl]
  simp only [Option.bind_some]
  by_cases h : inNum n = true
  · rw [if_pos h, if_pos h]
    unfold slices_Clone_byte_byte.f
    have h2 := (inNum_iff n).1 h
    rw [if_pos (by omega), zigzag_cl (by omega) (by omega)]
    simp only [Option.bind_some]
    rw [put_dg hk (zig_nn n) (zig_lt h) hl]
    rfl
  · rw [if_neg h, if_neg h]
theorem len_inNum {x : List Int} (h : x.length ≤ 4000) : inNum (x.length : Int) = true := by rw [inNum_iff]; omega
/-- PutBytes. -/
def putByt (l x : List Int) : List Int × Int := if x.length ≤ 4000 then (l ++ wn x.length ++ x, 0) else ([], 2)
theorem putBytes_cl {k : Nat} {l x : List Int} (hk : 7 ≤ k) (hl : l.length + 10000 < 140737488355328) : wire_PutBytes.f k l x = some (putByt l x) := by
  unfold wire_PutBytes.f putByt
  by_cases h : x.length ≤ 4000
  · rw [if_neg (by omega), if_pos h]
    unfold slices_Clone_byte_byte.f
    rw [if_pos (by omega), zigzag_cl (by omega) (by omega)]
    simp only [Option.bind_some]
    rw [put_dg hk (zig_nn _) (zig_lt (len_inNum h)) (by omega)]
    simp only [Option.bind_some]
    have := (wn_len (len_inNum h)).2
    rw [if_pos (by rw [List.length_append, show dg (zig (x.length : Int)) = wn x.length from rfl]; omega)]
    rfl
  · rw [if_pos (by omega), if_neg h]
theorem number_cl {l : List Int} {a : Int} (hB : isB l = true) (hl : l.length ≤ 140737488355328) : wire_Number.f l a = some (num l a) := by
  unfold wire_Number.f
  rw [if_pos ⟨hB, hl⟩]
theorem num_err {l : List Int} {a n e r : Int} (h : num l a = (n, e, r)) (hr : r ≠ 0) : n = 0 ∧ e = 0 := by
  have go : ∀ (cs : List Int) (u : Int) (i : Nat), numGo a u i cs = (n, e, r) → n = 0 ∧ e = 0 := by
    intro cs
    induction cs with
    | nil => intro u i h; simp only [numGo, Prod.mk.injEq] at h; omega
    | cons c cs ih =>
      intro u i h
      simp only [numGo] at h
      split at h
      · split at h
        · simp only [Prod.mk.injEq] at h; omega
        · exact ih _ _ h
      · split at h
        · simp only [Prod.mk.injEq] at h; omega
        · simp only [Prod.mk.injEq] at h; omega
  unfold num at h
  split at h
  · simp only [Prod.mk.injEq] at h; omega
  · split at h
    · simp only [Prod.mk.injEq] at h; omega
    · exact go _ _ _ h
/-- Bytes. -/
def byt (l : List Int) (a : Int) : List Int × Int × Int :=
  if (num l a).2.2 = 0 then
    (if (num l a).1 < 0 ∨ 4000 < (num l a).1 then ([], 0, 3)
     else if (l.length : Int) - (num l a).2.1 < (num l a).1 then ([], 0, 11)
     else ((l.drop (num l a).2.1.toNat).take (num l a).1.toNat, (num l a).2.1 + (num l a).1, 0))
  else ([], 0, (num l a).2.2)
theorem take_drop_mid (l : List Int) {e n : Int} (he : 0 ≤ e) (hn : 0 ≤ n) : (l.take (e + n).toNat).drop e.toNat = (l.drop e.toNat).take n.toNat := by
  rw [List.drop_take]
  congr 1
  omega
theorem bytes_cl {k : Nat} {l : List Int} {a : Int} (hk : 1 ≤ k) (hB : isB l = true) (hl : l.length ≤ 100000000000000) : wire_Bytes.f k l a = some (byt l a) := by
  obtain ⟨k, rfl⟩ : ∃ j, k = j + 1 := ⟨k - 1, by omega⟩
  unfold wire_Bytes.f byt
  rw [number_cl hB (by omega)]
  simp only [Option.bind_some]
  obtain ⟨n, e, r, h⟩ : ∃ n e r, num l a = (n, e, r) := ⟨_, _, _, rfl⟩
  rw [h]
  simp only
  by_cases hr : r = 0
  · subst hr
    obtain ⟨g1, g2, g3, g4, g5, g6⟩ := num_ok hB h
    have g7 := wn_len g3
    rw [if_pos rfl, if_pos rfl]
    by_cases hn : n < 0
    · rw [if_pos hn, if_pos (.inl hn)]
      simp only [wire_Bytes.j0, if_true]
    · rw [if_neg hn]
      simp only [wire_Bytes.j0]
      by_cases hn2 : n > 4000
      · rw [if_pos (by simpa using hn2), if_pos (.inr hn2)]
      · rw [if_neg (by simpa using hn2), if_neg (show ¬ (n < 0 ∨ 4000 < n) by omega), w64 (z := (l.length : Int) - e) (by omega) (by omega)]
        by_cases hs : n > (l.length : Int) - e
        · rw [if_pos hs, if_pos hs]
        · rw [if_neg hs, if_neg hs, w64 (z := e + n) (by omega) (by omega), if_pos (by omega), if_pos (by omega), if_pos (by omega)]
          unfold slices_Clone_byte_byte.f
          rw [if_pos (by simp only [List.length_drop, List.length_take]; omega), take_drop_mid l (by omega) (by omega)]
          rfl
  · rw [if_neg hr, if_neg hr]
theorem numbers_cl (ns : List Int) (hn : ∀ n ∈ ns, inNum n = true) (hns : ns.length ≤ 1000000) : ∀ (d i k : Nat) (b : List Int), ns.length - i = d → i ≤ ns.length → d + 8 ≤ k → b.length + 7 * d + 10 < 140737488355328 →
    wire_numbers.l0 k b ns (ns.length : Int) (i : Int) = some (b ++ (ns.drop i).flatMap wn) := by
  intro d
  induction d with
  | zero =>
    intro i k b hd hi hk hb
    obtain ⟨k, rfl⟩ : ∃ j, k = j + 1 := ⟨k - 1, by omega⟩
    simp only [wire_numbers.l0]
    rw [if_neg (by omega), List.drop_of_length_le (by omega)]
    simp
  | succ d ih =>
    intro i k b hd hi hk hb
    obtain ⟨k, rfl⟩ : ∃ j, k = j + 1 := ⟨k - 1, by omega⟩
    have hlt : i < ns.length := by omega
    simp only [wire_numbers.l0]
    rw [if_pos (by omega), if_pos (by omega), if_pos (by omega)]
    have hr : rd ns (i : Int) = ns[i] := by simp [rd, List.getD_eq_getElem?_getD, List.getElem?_eq_getElem hlt]
    have hin := hn _ (List.getElem_mem hlt)
    have h2 := (inNum_iff _).1 hin
    rw [hr, zigzag_cl (by omega) (by omega)]
    simp only [Option.bind_some]
    rw [put_dg (by omega) (zig_nn _) (zig_lt hin) (by omega)]
    simp only [Option.bind_some]
    rw [w64 (by omega) (by omega), show ((i : Int) + 1) = ((i + 1 : Nat) : Int) from rfl]
    have h7 := (wn_len hin).2
    rw [show dg (zig ns[i]) = wn ns[i] from rfl, ih (i + 1) k _ (by omega) (by omega) (by omega) (by rw [List.length_append]; omega)]
    rw [List.drop_eq_getElem_cons hlt, List.flatMap_cons, List.append_assoc]
theorem numbers_all {k : Nat} {b ns : List Int} (hn : ∀ n ∈ ns, inNum n = true) (hns : ns.length ≤ 1000000) (hk : ns.length + 8 ≤ k) (hb : b.length + 7 * ns.length + 10 < 140737488355328) : wire_numbers.f k b ns = some (b ++ ns.flatMap wn) := by
  have := numbers_cl ns hn hns ns.length 0 k b (by omega) (by omega) hk hb
  simpa [wire_numbers.f] using this
/-- The ranges of a frame's numbers and its body's length. -/
def okF (a0 a1 a2 a3 a4 : Int) (b : List Int) : Bool := decide (1 ≤ a0 ∧ a0 ≤ 4 ∧ 0 ≤ a1 ∧ a1 ≤ 59 ∧ -1 ≤ a2 ∧ a2 ≤ 59 ∧ 0 ≤ a3 ∧ a3 ≤ 1000000000 ∧ 0 ≤ a4 ∧ a4 ≤ 2000000 ∧ b.length ≤ 4000)
def hd5 (a0 a1 a2 a3 a4 : Int) : List Int := wn a0 ++ wn a1 ++ wn a2 ++ wn a3 ++ wn a4
def pck (a0 a1 a2 a3 a4 : Int) (b : List Int) : List Int × Int := if okF a0 a1 a2 a3 a4 b = true then (hd5 a0 a1 a2 a3 a4 ++ wn b.length ++ b, 0) else ([], 1)
theorem hd5_len {a0 a1 a2 a3 a4 : Int} {b : List Int} (h : okF a0 a1 a2 a3 a4 b = true) : 5 ≤ (hd5 a0 a1 a2 a3 a4).length ∧ (hd5 a0 a1 a2 a3 a4).length ≤ 35 := by
  have h := of_decide_eq_true h
  have l0 := wn_len (n := a0) (by rw [inNum_iff]; omega)
  have l1 := wn_len (n := a1) (by rw [inNum_iff]; omega)
  have l2 := wn_len (n := a2) (by rw [inNum_iff]; omega)
  have l3 := wn_len (n := a3) (by rw [inNum_iff]; omega)
  have l4 := wn_len (n := a4) (by rw [inNum_iff]; omega)
  simp only [hd5, List.length_append]
  omega
theorem pack_cl {k : Nat} (a0 a1 a2 a3 a4 : Int) (b : List Int) (hk : 20 ≤ k) : wire_Pack.f k a0 a1 a2 a3 a4 b = some (pck a0 a1 a2 a3 a4 b) := by
  unfold wire_Pack.f pck
  by_cases h : okF a0 a1 a2 a3 a4 b = true
  · have h' := of_decide_eq_true h
    rw [if_pos h', if_pos h, numbers_all (by
      intro n hn
      rw [inNum_iff]
      simp only [List.mem_cons, List.not_mem_nil, or_false] at hn
      rcases hn with rfl | rfl | rfl | rfl | rfl <;> omega) (by simp) (by simp; omega) (by simp)]
    simp only [Option.bind_some]
    have hh := (hd5_len h).2
    have e : ([] : List Int) ++ [a0, a1, a2, a3, a4].flatMap wn = hd5 a0 a1 a2 a3 a4 := by simp [hd5]
    have hlb := len_inNum h'.2.2.2.2.2.2.2.2.2.2
    rw [e, numbers_all (by
      intro n hn
      simp only [List.mem_cons, List.not_mem_nil, or_false] at hn
      subst hn
      exact hlb) (by simp) (by simp; omega) (by simp; omega)]
    simp only [Option.bind_some]
    have hw := (wn_len hlb).2
    rw [if_pos (by simp only [List.length_append, List.flatMap_cons, List.flatMap_nil, List.append_nil]; omega)]
    simp
  · rw [if_neg (by simpa [okF] using h), if_neg h]
/-- Unpack. -/
def upk (l : List Int) : Int × Int × Int × Int × Int × List Int × Int :=
  if (u4 l).2.2 = 0 then
    (if (byt l (u4 l).2.1).2.2 = 0 then (if (byt l (u4 l).2.1).2.1 < (l.length : Int) then (0, 0, 0, 0, 0, [], 11) else ((u0 l).1, (u1 l).1, (u2 l).1, (u3 l).1, (u4 l).1, (byt l (u4 l).2.1).1, 0))
     else (0, 0, 0, 0, 0, [], (byt l (u4 l).2.1).2.2))
  else (0, 0, 0, 0, 0, [], (u4 l).2.2)
theorem unpack_cl {k : Nat} {l : List Int} (hk : 1 ≤ k) (hB : isB l = true) (hl : l.length ≤ 100000000000000) : wire_Unpack.f k l = some (upk l) := by
  unfold wire_Unpack.f upk
  rw [if_pos ⟨hB, by omega⟩]
  split
  · rw [bytes_cl hk hB hl]
    simp only [Option.bind_some]
    split
    · split <;> rfl
    · rfl
  · rfl
theorem same_cl (a b : List Int) (hab : a.length = b.length) (ha : a.length ≤ 1000000000) : ∀ (d i k : Nat), a.length - i = d → i ≤ a.length → d < k → slotmeshref04_Same.l0 k a b (i : Int) = some (decide (a.drop i = b.drop i)) := by
  intro d
  induction d with
  | zero =>
    intro i k hd hi hk
    obtain ⟨k, rfl⟩ : ∃ j, k = j + 1 := ⟨k - 1, by omega⟩
    simp only [slotmeshref04_Same.l0]
    rw [if_neg (by omega), List.drop_of_length_le (by omega), List.drop_of_length_le (by omega)]
    simp
  | succ d ih =>
    intro i k hd hi hk
    obtain ⟨k, rfl⟩ : ∃ j, k = j + 1 := ⟨k - 1, by omega⟩
    have hlt : i < a.length := by omega
    have hlt2 : i < b.length := by omega
    simp only [slotmeshref04_Same.l0]
    rw [if_pos (by omega), if_pos (by omega), if_pos (by omega)]
    have hr : rd a (i : Int) = a[i] := by simp [rd, List.getD_eq_getElem?_getD, List.getElem?_eq_getElem hlt]
    have hr2 : rd b (i : Int) = b[i] := by simp [rd, List.getD_eq_getElem?_getD, List.getElem?_eq_getElem hlt2]
    rw [hr, hr2, List.drop_eq_getElem_cons hlt, List.drop_eq_getElem_cons hlt2]
    by_cases he : a[i] = b[i]
    · rw [if_pos he, w64 (by omega) (by omega), show ((i : Int) + 1) = ((i + 1 : Nat) : Int) from rfl, ih (i + 1) k (by omega) (by omega) (by omega)]
      simp only [List.cons.injEq, he, true_and]
    · rw [if_neg he]
      simp only [List.cons.injEq, he, false_and, decide_false]
theorem same_all {k : Nat} {a b : List Int} (ha : a.length ≤ 1000000000) (hk : a.length < k) : slotmeshref04_Same.f k a b = some (decide (a = b)) := by
  unfold slotmeshref04_Same.f
  by_cases h : a.length = b.length
  · rw [if_pos (by omega)]
    have := same_cl a b h ha a.length 0 k (by omega) (by omega) hk
    simpa using this
  · rw [if_neg (by omega)]
    have : a ≠ b := fun e => h (by rw [e])
    simp [this]
theorem sameFrame_cl {k : Nat} (a0 a1 a2 a3 a4 : Int) (a : List Int) (b0 b1 b2 b3 b4 : Int) (b : List Int) (ha : a.length ≤ 1000000000) (hk : a.length < k) :
    slotmeshref04_SameFrame.f k a0 a1 a2 a3 a4 a b0 b1 b2 b3 b4 b = some (decide (a = b ∧ a0 = b0 ∧ a1 = b1 ∧ a2 = b2 ∧ a3 = b3 ∧ a4 = b4)) := by
  unfold slotmeshref04_SameFrame.f
  rw [same_all ha hk]
  simp only [Option.bind_some]
  by_cases h : a = b
  · subst h
    rw [if_pos (by simp)]
    by_cases h0 : a0 = b0
    · rw [if_pos h0]
      by_cases h1 : a1 = b1
      · rw [if_pos h1]
        by_cases h2 : a2 = b2
        · rw [if_pos h2]
          by_cases h3 : a3 = b3
          · rw [if_pos h3]
            by_cases h4 : a4 = b4 <;> simp [h0, h1, h2, h3, h4]
          · rw [if_neg h3]; simp [h3]
        · rw [if_neg h2]; simp [h2]
      · rw [if_neg h1]; simp [h1]
    · rw [if_neg h0]; simp [h0]
  · rw [if_neg (by simpa using h)]; simp [h]
theorem few_cl (a b : List Int) : slotmeshlaw04_few.f a b = some (decide (a.length ≤ 6000 ∧ b.length ≤ 6000)) := by
  unfold slotmeshlaw04_few.f
  by_cases h : a.length ≤ 6000
  · rw [if_pos (by omega)]
    by_cases h2 : b.length ≤ 6000
    · simp [h, h2]; omega
    · simp [h, h2]; omega
  · rw [if_neg (by omega)]; simp [h]
set_option maxRecDepth 100000 in
theorem head30 : slotmeshlaw04_head.f 30 = some true := by decide +kernel
theorem head_cl {k : Nat} (hk : 30 ≤ k) : slotmeshlaw04_head.f k = some true := at_rounds slotmeshlaw04_head.mono hk head30
end Go.Proofs.Ytanipbjbaalomaa.Pl
