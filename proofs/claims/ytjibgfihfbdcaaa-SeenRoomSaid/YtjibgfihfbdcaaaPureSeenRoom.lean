/- SeenRoom holds. No condition. -/
import Derived.Test.YtjibgfihfbdcaaaPSeenx14
import Derived.Test.YtjibgfihfbdcaaaSeenHead
namespace Go.Proofs.Ytjibgfihfbdcaaa.Pl
open Go.RowKit Go.Proofs.Ytjibgfihfbdcaaa.PSeen Go.Proofs.YtjibgfihfbdcaaaW.PrintWords
theorem intervals_l0 (l : List S45) : ∀ (d i k s : Nat), i + d = l.length → d < k → s + totL (l.drop i) ≤ 9223372036854775807 → l.length ≤ 9223372036854775806 → slotmeshlaw26_intervals.l0 k (s : Int) l (l.length : Int) (i : Int) = some ((s + totL (l.drop i) : Nat) : Int)
  | 0, i, k, s, hi, hk, hb, hl => by
    obtain ⟨k, rfl⟩ := pos_k hk
    simp only [slotmeshlaw26_intervals.l0]
    rw [if_neg (by omega), List.drop_eq_nil_of_le (by omega)]
    simp [totL]
  | d + 1, i, k, s, hi, hk, hb, hl => by
    obtain ⟨k, rfl⟩ := pos_k hk
    have hlt : i < l.length := by omega
    have hd := List.drop_eq_getElem_cons hlt
    rw [hd, totL_cons] at hb
    simp only [slotmeshlaw26_intervals.l0]
    rw [if_pos (by omega), if_pos (by omega), if_pos (by omega), rd45 hlt, w64 (by omega) (by omega), up (by omega),
      show (s : Int) + (l[i].f1.length : Int) = ((s + l[i].f1.length : Nat) : Int) by omega, intervals_l0 l d (i + 1) k (s + l[i].f1.length) (by omega) (by omega) (by omega) hl, hd, totL_cons]
    congr 2
    omega
theorem intervals_cl {l : List S45} {k : Nat} (hk : l.length < k) (hb : totL l ≤ 9223372036854775807) (hl : l.length ≤ 9223372036854775806) : slotmeshlaw26_intervals.f k l = some (totL l : Int) := by
  have := intervals_l0 l l.length 0 k 0 (by omega) hk (by simpa using hb) hl
  unfold slotmeshlaw26_intervals.f
  simpa using this
theorem room_in {k : Nat} {x0 : List S45} {x7 : Bool} {x8 x9 : Int} {x10 : List S45} {x12 x13 : Int} {x47 : List Int} {x48 x49 : Int} {c : Bool} (h1 : x49 < x48) (h2 : 0 ≤ x49) (h3 : x49 < (x47.length : Int)) (hc : seen_Has.f k x0 x8 (rd x47 x49) = some c) :
    slotmeshlaw26_SeenRoom.l0 (k + 1) x0 x7 x8 x9 x10 x12 x13 x47 x48 x49 = slotmeshlaw26_SeenRoom.l0 k x0 x7 x8 x9 x10 x12 (if c = true then wrap64 (x13 + 1) else x13) x47 x48 (wrap64 (x49 + 1)) := by
  rw [slotmeshlaw26_SeenRoom.l0, if_pos h1, if_pos h2, if_pos h3, hc, Option.bind_some]
  cases c <;> rfl
theorem room_out {k : Nat} {x0 : List S45} {x7 : Bool} {x8 x9 : Int} {x10 : List S45} {x12 x13 : Int} {x47 : List Int} {x48 x49 : Int} {c : Bool} {m : Int} (h1 : ¬ x49 < x48) (hc : seen_Has.f k x0 x8 x9 = some c) (hm : slotmeshlaw26_intervals.f k x0 = some m) :
    slotmeshlaw26_SeenRoom.l0 (k + 1) x0 x7 x8 x9 x10 x12 x13 x47 x48 x49 = slotmeshlaw26_SeenRoom.j2 k x0 x7 x10 x12 x13 c (if m = 64 then (if c = true then false else x13 == 0) else false) := by
  rw [slotmeshlaw26_SeenRoom.l0, if_neg h1, hc, Option.bind_some, hm, Option.bind_some]
  by_cases h : m = 64
  · rw [if_pos h, if_pos h]
    cases c <;> rfl
  · rw [if_neg h, if_neg h]
theorem one_if (c : Bool) (x : Int) (h : 0 ≤ x ∧ x ≤ 5) : (if c = true then wrap64 (x + 1) else x) = x + one c := by
  cases c with
  | true => rw [if_pos rfl, w64 (by omega) (by omega)]; rfl
  | false => simp [one]
theorem one_01 (c : Bool) : one c = 0 ∨ one c = 1 := by cases c <;> simp [one]
end Go.Proofs.Ytjibgfihfbdcaaa.Pl
namespace Go.Proofs.Ytjibgfihfbdcaaa.Pure
open Go.RowKit Go.Proofs.Ytjibgfihfbdcaaa.PSeen Go.Proofs.YtjibgfihfbdcaaaW.PrintWords
set_option linter.unusedVariables false
theorem SeenRoom (l : List S45) (a b : Int)
    (hl : l.length * 32 ≤ 140737488351232 ∧ ∀ s ∈ l, (Lit.int .i64 s.f0).wf = true ∧ s.f1.length * 16 ≤ 140737488351232 ∧ ∀ x ∈ s.f1, (Lit.int .i64 x.f0).wf = true ∧ (Lit.int .i64 x.f1).wf = true)
    (ha : (Lit.int .u8 a).wf = true) (hb : (Lit.int .u32 b).wf = true) : ∃ k, slotmeshlaw26_SeenRoom.f k l a b = some true := by
  refine ⟨200000, ?_⟩
  have hr : Pl.Reach l := fun s hs => by have := (hl.2 s hs).2.1; omega
  have haB := Pl.wf8 ha
  have hbB := Pl.wf32 hb
  unfold slotmeshlaw26_SeenRoom.f
  rw [Pl.head_cl (by omega), Pl.few_cl (by omega) hr]
  simp only [Option.bind_some]
  cases hf : Pl.fewB l with
  | false => simp [slotmeshlaw26_SeenRoom.j0]
  | true =>
  obtain ⟨h1, h2⟩ := Pl.few_yes hf
  rw [if_pos rfl, Pl.rvalid_cl (by omega) (by omega) (by omega)]
  simp only [Option.bind_some]
  cases hv : Pl.okV l with
  | false => simp [slotmeshlaw26_SeenRoom.j0]
  | true =>
  obtain ⟨l1, l2, l3⟩ := Pl.okV_len hv
  have tm : Int.tmod (wrap64 a) 60 = a % 60 := by rw [Pl.w64 (by omega) (by omega)]; exact Int.tmod_eq_emod_of_nonneg haB.1
  have tn : wrap64 (1 + Int.tmod (wrap64 b) 1000000000) = 1 + b % 1000000000 := by rw [Pl.w64 (x := b) (by omega) (by omega), Int.tmod_eq_emod_of_nonneg hbB.1]; exact Pl.w64 (by omega) (by omega)
  obtain ⟨o, hoE⟩ : ∃ o, a % 60 = o := ⟨_, rfl⟩
  obtain ⟨n, hnE⟩ : ∃ n, 1 + b % 1000000000 = n := ⟨_, rfl⟩
  have ho : 0 ≤ o ∧ o ≤ 59 := by omega
  have hn : 1 ≤ n ∧ n ≤ 1000000000 := by omega
  have hoB : -9223372036854775808 ≤ o ∧ o ≤ 9223372036854775807 := by omega
  simp only [slotmeshlaw26_SeenRoom.j0, tm, tn, hoE, hnE]
  rw [if_neg (by simp), Pl.add_cl (by omega) (by omega) (by omega), Pl.w64 (x := n - 1) (by omega) (by omega), Pl.w64 (x := n + 1) (by omega) (by omega)]
  simp only [Option.bind_some]
  have H : ∀ k q, 1000 < k → seen_Has.f k l o q = some (Pl.rinB (Pl.OfL l o) q) := fun k q hk => by rw [Pl.has_cl (by omega) (by omega) (by omega) hoB, hv, Bool.true_and]
  have HI : ∀ k (m : List S45), 1000 < k → m.length ≤ 100 → Pl.totL m ≤ 100 → slotmeshlaw26_intervals.f k m = some (Pl.totL m : Int) := fun k m hk g1 g2 => Pl.intervals_cl (by omega) (by omega) (by omega)
  obtain ⟨A, hA⟩ : ∃ A, Pl.rinB (Pl.OfL l o) (n - 1) = A := ⟨_, rfl⟩
  obtain ⟨B, hB⟩ : ∃ B, Pl.rinB (Pl.OfL l o) (n + 1) = B := ⟨_, rfl⟩
  obtain ⟨T, hT⟩ : ∃ T, Pl.rinB (Pl.OfL l o) n = T := ⟨_, rfl⟩
  have oA := Pl.one_01 A
  have oB := Pl.one_01 B
  have y0 : rd [n - 1, n + 1] 0 = n - 1 := rfl
  have y1 : rd [n - 1, n + 1] 1 = n + 1 := rfl
  have e1 : wrap64 ((0 : Int) + 1) = 1 := Pl.w64 (x := 1) (by omega) (by omega)
  have e2 : wrap64 ((1 : Int) + 1) = 2 := Pl.w64 (x := 2) (by omega) (by omega)
  have ln : (([n - 1, n + 1] : List Int).length : Int) = 2 := rfl
  rw [ln, Pl.room_in (k := 199998) (c := A) (by omega) (by omega) (by rw [ln]; omega) (by rw [y0, H _ _ (by omega), hA]), Pl.one_if A 0 (by omega), e1,
    Pl.room_in (k := 199997) (c := B) (by omega) (by omega) (by rw [ln]; omega) (by rw [y1, H _ _ (by omega), hB]), Pl.one_if B (0 + Pl.one A) (by omega), e2,
    Pl.room_out (k := 199996) (c := T) (m := (Pl.totL l : Int)) (by omega) (by rw [H _ _ (by omega), hT]) (HI _ _ (by omega) (by omega) (by omega))]
  rcases Pl.addR_cases l o n with ⟨_, e⟩ | ⟨hvv, ⟨hin, e⟩ | ⟨hin, ht, e⟩ | ⟨hin, ht, e⟩⟩
  · exact absurd ⟨hv, ho, hn⟩ e
  · rw [hT] at hin
    subst hin
    rw [e]
    simp only [slotmeshlaw26_SeenRoom.j2, if_true]
    rw [show (if (Pl.totL l : Int) = 64 then false else false) = false by split <;> rfl, if_neg (by simp), HI _ _ (by omega) h1 h2]
    simp only [Option.bind_some]
    rw [Pl.w64 (by omega) (by omega)]
    simp
  all_goals
    have hT2 := Pl.addL_tot l3 ho hn (Pl.rinB_no.1 hin)
    rw [hA, hB] at hT2
    rw [hT] at hin
    subst hin
    rw [e]
  · have hz : (Pl.totL l : Int) = 64 := by omega
    have hzz : Pl.one A = 0 ∧ Pl.one B = 0 := by omega
    rw [if_pos hz, if_neg (by simp), hzz.1, hzz.2]
    simp [slotmeshlaw26_SeenRoom.j2]
  · have hw := Pl.addR_okV hvv ht
    have hm := Pl.okV_len hw
    have hne : (if (Pl.totL l : Int) = 64 then (if false = true then false else (0 + Pl.one A + Pl.one B == 0)) else false) = false := by
      by_cases hz : (Pl.totL l : Int) = 64
      · rw [if_pos hz, if_neg (by simp), beq_eq_false_iff_ne]
        omega
      · rw [if_neg hz]
    rw [hne]
    simp only [slotmeshlaw26_SeenRoom.j2, if_true]
    rw [if_neg (by simp), if_neg (by simp), HI _ _ (by omega) (by omega) (by omega), HI _ _ (by omega) h1 h2]
    simp only [Option.bind_some]
    rw [Pl.w64 (x := 1 - (0 + Pl.one A + Pl.one B)) (by omega) (by omega), Pl.w64 (by omega) (by omega)]
    congr 1
    rw [beq_iff_eq]
    omega
end Go.Proofs.Ytjibgfihfbdcaaa.Pure
