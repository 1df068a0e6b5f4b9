/- Closed forms of the reference of package seen: Of, in, Has. -/
import Derived.Test.YtjibgfihfbdcaaaPSeenx10
import Derived.Test.YtjibgfihfbdcaaaSeenRefA
namespace Go.Proofs.Ytjibgfihfbdcaaa.Pl
open Go.RowKit Go.Proofs.Ytjibgfihfbdcaaa.PSeen Go.Proofs.YtjibgfihfbdcaaaW.PrintWords
set_option linter.unusedVariables false
set_option linter.unusedSimpArgs false
theorem of_l0 (l : List S45) (o : Int) (hl : l.length ≤ 1000000000) : ∀ (d i k : Nat), i + d = l.length → d < k → slotmeshref26_Of.l0 k l o (i : Int) = some (OfL (l.drop i) o)
  | 0, i, k, hi, hk => by
    obtain ⟨k, rfl⟩ := pos_k hk
    simp only [slotmeshref26_Of.l0]
    rw [if_neg (by omega), List.drop_eq_nil_of_le (by omega)]
    rfl
  | d + 1, i, k, hi, hk => by
    obtain ⟨k, rfl⟩ := pos_k hk
    have hlt : i < l.length := by omega
    simp only [slotmeshref26_Of.l0]
    rw [if_pos (by omega), if_pos (by omega), rd45 hlt, List.drop_eq_getElem_cons hlt, OfL, up (by omega)]
    by_cases h : l[i].f0 = o
    · rw [if_pos h, if_pos h]
    · rw [if_neg h, if_neg h]
      exact of_l0 l o hl d (i + 1) k (by omega) (by omega)
theorem of_cl {l : List S45} {o : Int} {k : Nat} (hk : l.length < k) (hl : l.length ≤ 1000000000) : slotmeshref26_Of.f k l o = some (OfL l o) := by
  have := of_l0 l o hl l.length 0 k (by omega) hk
  rw [List.drop_zero] at this
  exact this
theorem in_l0 (l : List S47) (n : Int) (hl : l.length ≤ 1000000000) : ∀ (d i k : Nat), i + d = l.length → d < k → slotmeshref26_in.l0 k l n (i : Int) = some (rinB (l.drop i) n)
  | 0, i, k, hi, hk => by
    obtain ⟨k, rfl⟩ := pos_k hk
    simp only [slotmeshref26_in.l0]
    rw [if_neg (by omega), List.drop_eq_nil_of_le (by omega)]
    rfl
  | d + 1, i, k, hi, hk => by
    obtain ⟨k, rfl⟩ := pos_k hk
    have hlt : i < l.length := by omega
    simp only [slotmeshref26_in.l0]
    rw [if_pos (by omega), if_pos (by omega), rd47 hlt, List.drop_eq_getElem_cons hlt, rinB_cons, up (by omega), in_l0 l n hl d (i + 1) k (by omega) (by omega)]
    by_cases h1 : n ≥ l[i].f0
    · rw [if_pos h1]
      by_cases h2 : n ≤ l[i].f1
      · rw [if_pos h2, decide_eq_true ⟨h1, h2⟩]
        rfl
      · rw [if_neg h2, decide_eq_false (fun h => h2 h.2), Bool.false_or]
    · rw [if_neg h1, decide_eq_false (fun h => h1 h.1), Bool.false_or]
theorem in_cl {l : List S47} {n : Int} {k : Nat} (hk : l.length < k) (hl : l.length ≤ 1000000000) : slotmeshref26_in.f k l n = some (rinB l n) := by
  have := in_l0 l n hl l.length 0 k (by omega) hk
  rw [List.drop_zero] at this
  exact this
theorem rhas_cl {l : List S45} {o n : Int} {k : Nat} (hk : totL l + 4 * l.length + 1 < k) (hl : l.length ≤ 1000000000) (hz : totL l ≤ 1000000000) : slotmeshref26_Has.f k l o n = some (okV l && rinB (OfL l o) n) := by
  unfold slotmeshref26_Has.f
  rw [rvalid_cl hk hl hz]
  simp only [Option.bind_some]
  cases hv : okV l with
  | false => simp
  | true =>
    obtain ⟨h1, h2, h3⟩ := okV_len hv
    have := WR_len o h3
    rw [if_pos rfl, of_cl (by omega) hl]
    simp only [Option.bind_some]
    rw [in_cl (by omega) (by omega)]
    rfl
end Go.Proofs.Ytjibgfihfbdcaaa.Pl
