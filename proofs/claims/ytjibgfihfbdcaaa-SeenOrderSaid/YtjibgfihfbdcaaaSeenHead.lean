/- The fixed examples of package seen's laws; ranges. -/
import Derived.Test.YtjibgfihfbdcaaaSeenRefA
import Derived.KernelRfl
namespace Go.Proofs.Ytjibgfihfbdcaaa.Pl
open Go.RowKit Go.Proofs.Ytjibgfihfbdcaaa.PSeen Go.Proofs.YtjibgfihfbdcaaaW.PrintWords
set_option linter.unusedVariables false
set_option linter.unusedSimpArgs false
theorem wf64 {n : Int} (h : (Lit.int .i64 n).wf = true) : -9223372036854775808 ≤ n ∧ n ≤ 9223372036854775807 := by
  unfold Lit.wf at h
  rw [Bool.and_eq_true, decide_eq_true_eq, decide_eq_true_eq] at h
  exact h
theorem wf8 {n : Int} (h : (Lit.int .u8 n).wf = true) : 0 ≤ n ∧ n ≤ 255 := by
  unfold Lit.wf at h
  rw [Bool.and_eq_true, decide_eq_true_eq, decide_eq_true_eq] at h
  exact h
theorem wf32 {n : Int} (h : (Lit.int .u32 n).wf = true) : 0 ≤ n ∧ n ≤ 4294967295 := by
  unfold Lit.wf at h
  rw [Bool.and_eq_true, decide_eq_true_eq, decide_eq_true_eq] at h
  exact h
theorem reach_of {l : List S45} {p : S45 → Prop} (h : ∀ s ∈ l, p s ∧ s.f1.length * 16 ≤ 140737488351232) : Reach l := fun s hs => by
  have := (h s hs).2
  omega
theorem few_yes {l : List S45} (h : fewB l = true) : l.length ≤ 100 ∧ totL l ≤ 100 := of_decide_eq_true h
theorem head_a : addR [] 3 5 = ([⟨3, [⟨5, 5⟩]⟩], true, 0) := by kernel_rfl
theorem head_b : addR [⟨3, [⟨5, 5⟩]⟩] 3 7 = ([⟨3, [⟨5, 5⟩, ⟨7, 7⟩]⟩], true, 0) := by kernel_rfl
theorem head_c : addR [⟨3, [⟨5, 5⟩, ⟨7, 7⟩]⟩] 3 6 = ([⟨3, [⟨5, 7⟩]⟩], true, 0) := by kernel_rfl
theorem head_d : addR [⟨3, [⟨5, 7⟩]⟩] 3 6 = ([⟨3, [⟨5, 7⟩]⟩], false, 0) := by kernel_rfl
theorem head_e : addR [] 60 1 = ([], false, 1) := by kernel_rfl
theorem head_m : missR [⟨3, [⟨5, 7⟩]⟩] 3 3 = [1, 2, 3] := by kernel_rfl
theorem head_h : (okV [⟨3, [⟨5, 7⟩]⟩] && rinB (OfL [⟨3, [⟨5, 7⟩]⟩] 3) 7) = true := by kernel_rfl
theorem head_n : (okV [⟨3, [⟨5, 7⟩]⟩] && rinB (OfL [⟨3, [⟨5, 7⟩]⟩] 2) 7) = false := by kernel_rfl
theorem head_v : okV [] = true := by kernel_rfl
theorem head_cl {k : Nat} (hk : 100000 ≤ k) : slotmeshlaw26_head.f k = some true := by
  obtain ⟨k, rfl⟩ : ∃ m, k = m + 2 := ⟨k - 2, by omega⟩
  unfold slotmeshlaw26_head.f
  have t1 : totL [⟨3, [⟨5, 5⟩]⟩] = 1 := rfl
  have t2 : totL [⟨3, [⟨5, 5⟩, ⟨7, 7⟩]⟩] = 2 := rfl
  have t3 : totL [⟨3, [⟨5, 7⟩]⟩] = 1 := rfl
  have t0 : totL [] = 0 := rfl
  have l1 : ∀ x : S45, [x].length = 1 := fun _ => rfl
  have l0 : ([] : List S45).length = 0 := rfl
  rw [add_cl (by rw [l0]; omega) (by rw [t0]; omega) (by rw [l0]; omega), head_a]
  simp only [Option.bind_some]
  rw [add_cl (by rw [l1]; omega) (by rw [t1]; omega) (by rw [l1]; omega), head_b]
  simp only [Option.bind_some]
  rw [add_cl (by rw [l1]; omega) (by rw [t2]; omega) (by rw [l1]; omega), head_c]
  simp only [Option.bind_some]
  rw [add_cl (by rw [l1]; omega) (by rw [t3]; omega) (by rw [l1]; omega), head_d]
  simp only [Option.bind_some]
  rw [add_cl (by rw [l0]; omega) (by rw [t0]; omega) (by rw [l0]; omega), head_e]
  simp only [Option.bind_some, if_true, Bool.not_false, slotmeshlaw26_head.j0, slotmeshlaw26_of.f]
  rw [same_cl (by rw [t1, l1]; omega) (by rw [l1]; omega) (by rw [t1]; omega)]
  simp only [Option.bind_some, if_true]
  rw [same_cl (by rw [t2, l1]; omega) (by rw [l1]; omega) (by rw [t2]; omega)]
  simp only [Option.bind_some, if_true]
  rw [same_cl (by rw [t3, l1]; omega) (by rw [l1]; omega) (by rw [t3]; omega)]
  simp only [Option.bind_some, if_true, slotmeshlaw26_head.j1]
  rw [missing_cl (by rw [l1]; simp; omega) (by rw [t3]; omega) (by rw [l1]; omega) (by omega) (by omega), head_m]
  simp only [Option.bind_some]
  rw [ints_cl (by simp; omega) (by simp)]
  simp only [Option.bind_some, if_true]
  rw [has_cl (by rw [l1]; omega) (by rw [t3]; omega) (by rw [l1]; omega) (by omega), head_h]
  simp only [Option.bind_some, if_true]
  rw [has_cl (by rw [l1]; omega) (by rw [t3]; omega) (by rw [l1]; omega) (by omega), head_n, valid_cl (by rw [l0]; omega) (by rw [t0]; omega) (by rw [l0]; omega), head_v]
  simp
/-- Add told case by case. -/
theorem addR_cases (l : List S45) (o n : Int) : (addR l o n = ([], false, 1) ∧ ¬ (okV l = true ∧ (0 ≤ o ∧ o ≤ 59) ∧ (1 ≤ n ∧ n ≤ 1000000000))) ∨ ((okV l = true ∧ (0 ≤ o ∧ o ≤ 59) ∧ (1 ≤ n ∧ n ≤ 1000000000)) ∧
    ((rinB (OfL l o) n = true ∧ addR l o n = (l, false, 0)) ∨ (rinB (OfL l o) n = false ∧ totL (addL l o n) > 64 ∧ addR l o n = ([], false, 10)) ∨ (rinB (OfL l o) n = false ∧ totL (addL l o n) ≤ 64 ∧ addR l o n = (addL l o n, true, 0)))) := by
  by_cases h : okV l = true ∧ (0 ≤ o ∧ o ≤ 59) ∧ (1 ≤ n ∧ n ≤ 1000000000)
  · refine .inr ⟨h, ?_⟩
    rw [addR_ok h]
    cases hr : rinB (OfL l o) n with
    | true => exact .inl ⟨rfl, by simp⟩
    | false =>
      by_cases hg : totL (addL l o n) > 64
      · exact .inr (.inl ⟨rfl, hg, by simp [hg]⟩)
      · exact .inr (.inr ⟨rfl, by omega, by simp [hg]⟩)
  · exact .inl ⟨addR_bad h, h⟩
theorem addR_okV {l : List S45} {o n : Int} (h : okV l = true ∧ (0 ≤ o ∧ o ≤ 59) ∧ (1 ≤ n ∧ n ≤ 1000000000)) (ht : totL (addL l o n) ≤ 64) : okV (addL l o n) = true :=
  okV_iff.2 ⟨ht, addL_WS (okV_len h.1).2.2 h.2.1 h.2.2⟩
theorem addR_small {l : List S45} (o n : Int) (h1 : l.length ≤ 100) (h2 : totL l ≤ 100) : (addR l o n).1.length ≤ 100 ∧ totL (addR l o n).1 ≤ 100 := by
  have h0 : ([] : List S45).length ≤ 100 ∧ totL [] ≤ 100 := ⟨by simp, by simp [totL]⟩
  rcases addR_cases l o n with ⟨e, _⟩ | ⟨hv, ⟨_, e⟩ | ⟨_, _, e⟩ | ⟨_, ht, e⟩⟩
  · rw [e]; exact h0
  · rw [e]; exact ⟨h1, h2⟩
  · rw [e]; exact h0
  · rw [e]
    have := okV_len (addR_okV hv ht)
    exact ⟨(by omega : (addL l o n).length ≤ 100), (by omega : totL (addL l o n) ≤ 100)⟩
end Go.Proofs.Ytjibgfihfbdcaaa.Pl
