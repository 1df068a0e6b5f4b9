/- SeenExactly holds. No condition. -/
import Derived.Test.YtjibgfihfbdcaaaPSeenx13
import Derived.Test.YtjibgfihfbdcaaaSeenHead
namespace Go.Proofs.Ytjibgfihfbdcaaa.Pure
open Go.RowKit Go.Proofs.Ytjibgfihfbdcaaa.PSeen Go.Proofs.YtjibgfihfbdcaaaW.PrintWords
set_option linter.unusedVariables false
theorem SeenExactly (l : List S45) (o n p q : Int)
    (hl : l.length * 32 ≤ 140737488351232 ∧ ∀ s ∈ l, (Lit.int .i64 s.f0).wf = true ∧ s.f1.length * 16 ≤ 140737488351232 ∧ ∀ x ∈ s.f1, (Lit.int .i64 x.f0).wf = true ∧ (Lit.int .i64 x.f1).wf = true)
    (ho : (Lit.int .i64 o).wf = true) (hn : (Lit.int .i64 n).wf = true) (hp : (Lit.int .i64 p).wf = true) (hq : (Lit.int .i64 q).wf = true) : ∃ k, slotmeshlaw26_SeenExactly.f k l o n p q = some true := by
  refine ⟨200000, ?_⟩
  have hr : Pl.Reach l := fun s hs => by have := (hl.2 s hs).2.1; omega
  have hoB := Pl.wf64 ho
  have hpB := Pl.wf64 hp
  unfold slotmeshlaw26_SeenExactly.f
  rw [Pl.head_cl (by omega), Pl.few_cl (by omega) hr]
  simp only [Option.bind_some, if_true]
  cases hf : Pl.fewB l with
  | false => simp
  | true =>
  obtain ⟨h1, h2⟩ := Pl.few_yes hf
  rw [if_pos rfl, Pl.add_cl (by omega) (by omega) (by omega)]
  simp only [Option.bind_some]
  have fin : ∀ m : List S45, m.length ≤ 100 → Pl.totL m ≤ 100 → (∀ a b, ¬ (a = o ∧ b = n) → (Pl.okV m && Pl.rinB (Pl.OfL m a) b) = (Pl.okV l && Pl.rinB (Pl.OfL l a) b)) → slotmeshlaw26_SeenExactly.j0 200000 l o n p q true m false = some true := fun m hm1 hm2 he => by
    simp only [slotmeshlaw26_SeenExactly.j0, if_true]
    rw [if_neg (by simp)]
    by_cases c1 : p = o
    · rw [if_pos c1]
      by_cases c2 : q = n
      · rw [if_pos c2]
      · rw [if_neg c2, Pl.has_cl (by omega) (by omega) (by omega) hpB, Pl.has_cl (by omega) (by omega) (by omega) hpB, he p q (fun h => c2 h.2)]
        simp
    · rw [if_neg c1, Pl.has_cl (by omega) (by omega) (by omega) hpB, Pl.has_cl (by omega) (by omega) (by omega) hpB, he p q (fun h => c1 h.1)]
      simp
  rcases Pl.addR_cases l o n with ⟨e, _⟩ | ⟨hv, ⟨hin, e⟩ | ⟨_, _, e⟩ | ⟨hin, ht, e⟩⟩
  · rw [e]
    simp
  · rw [e]
    simp only [if_true]
    rw [Pl.add_cl (by omega) (by omega) (by omega), e, Pl.valid_cl (by omega) (by omega) (by omega), Pl.has_cl (by omega) (by omega) (by omega) hoB, hv.1, hin]
    simp only [Option.bind_some, if_true, Bool.and_self, Bool.false_beq, Bool.not_true]
    rw [if_neg (by simp), if_neg (by simp), Pl.same_cl (by omega) (by omega) (by omega)]
    exact fin l h1 h2 (fun a b _ => rfl)
  · rw [e]
    simp
  · obtain ⟨v1, v2, v3⟩ := hv
    have hw := (Pl.okV_len v1).2.2
    have hvm := Pl.addR_okV ⟨v1, v2, v3⟩ ht
    obtain ⟨m1, m2, m3⟩ := Pl.okV_len hvm
    have hinm : Pl.rinB (Pl.OfL (Pl.addL l o n) o) n = true := Pl.rinB_iff.2 ((Pl.addL_in hw v2 v3 o n).2 (.inl ⟨rfl, rfl⟩))
    have e2 : Pl.addR (Pl.addL l o n) o n = (Pl.addL l o n, false, 0) := by
      rw [Pl.addR_ok ⟨hvm, v2, v3⟩, if_pos hinm]
    rw [e]
    simp only [if_true]
    rw [Pl.add_cl (by omega) (by omega) (by omega), e2, Pl.valid_cl (by omega) (by omega) (by omega), hvm, Pl.has_cl (by omega) (by omega) (by omega) hoB, v1, hin]
    simp only [Option.bind_some, if_true, Bool.and_false]
    rw [if_neg (by simp), Pl.has_cl (by omega) (by omega) (by omega) hoB, hvm, hinm]
    simp only [Option.bind_some, if_true, Bool.and_self]
    rw [if_neg (by simp), Pl.same_cl (by omega) (by omega) (by omega)]
    refine fin _ (by omega) (by omega) (fun a b hab => ?_)
    rw [hvm, v1, Bool.true_and, Bool.true_and, Bool.eq_iff_iff, Pl.rinB_iff, Pl.rinB_iff, Pl.addL_in hw v2 v3]
    constructor
    · rintro (h | h)
      · exact absurd h hab
      · exact h
    · exact .inr
end Go.Proofs.Ytjibgfihfbdcaaa.Pure
