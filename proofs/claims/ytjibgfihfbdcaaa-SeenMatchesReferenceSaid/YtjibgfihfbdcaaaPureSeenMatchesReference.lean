/- SeenMatchesReference holds. No condition. -/
import Derived.Test.YtjibgfihfbdcaaaSeenHead
import Derived.Test.YtjibgfihfbdcaaaSeenRefC
namespace Go.Proofs.Ytjibgfihfbdcaaa.Pure
open Go.RowKit Go.Proofs.Ytjibgfihfbdcaaa.PSeen Go.Proofs.YtjibgfihfbdcaaaW.PrintWords
set_option linter.unusedVariables false
theorem missL_len : ∀ (X : List S47) (next : Int) (out : List Int) (most : Int), (out.length : Int) ≤ max most 0 → ((Pl.missL X next out most).length : Int) ≤ max most 0
  | [], _, _, _, h => h
  | x :: xs, next, out, most, h => by
    rw [Pl.missL]
    refine missL_len xs _ _ most ?_
    have := Pl.fillM_len (most.toNat - out.length) next x.f0 out most
    omega
theorem missR_len (l : List S45) (o most : Int) : ((Pl.missR l o most).length : Int) ≤ max most 0 := by
  unfold Pl.missR Pl.missC
  split
  · exact missL_len _ _ _ _ (by simp only [List.length_nil]; omega)
  · simp only [List.length_nil]; omega
theorem SeenMatchesReference (l : List S45) (o n m : Int)
    (hl : l.length * 32 ≤ 140737488351232 ∧ ∀ s ∈ l, (Lit.int .i64 s.f0).wf = true ∧ s.f1.length * 16 ≤ 140737488351232 ∧ ∀ x ∈ s.f1, (Lit.int .i64 x.f0).wf = true ∧ (Lit.int .i64 x.f1).wf = true)
    (ho : (Lit.int .i64 o).wf = true) (hn : (Lit.int .i64 n).wf = true) (hm : (Lit.int .i64 m).wf = true) : ∃ k, slotmeshlaw26_SeenMatchesReference.f k l o n m = some true := by
  refine ⟨200000, ?_⟩
  have hr : Pl.Reach l := fun s hs => by have := (hl.2 s hs).2.1; omega
  have hoB := Pl.wf64 ho
  unfold slotmeshlaw26_SeenMatchesReference.f
  rw [Pl.head_cl (by omega), Pl.few_cl (by omega) hr]
  simp only [Option.bind_some, slotmeshlaw26_SeenMatchesReference.j0, if_true]
  by_cases hc : Pl.fewB l = true ∧ m ≤ 1000
  case neg =>
    cases hf : Pl.fewB l with
    | false => simp
    | true => rw [if_pos rfl, decide_eq_true (by have : ¬ m ≤ 1000 := fun h => hc ⟨hf, h⟩; omega), if_pos rfl]
  obtain ⟨hf, hm2⟩ := hc
  obtain ⟨h1, h2⟩ := Pl.few_yes hf
  rw [hf, if_pos rfl, decide_eq_false (by omega), if_neg (by simp)]
  rw [Pl.add_cl (by omega) (by omega) (by omega), Pl.radd_cl (by omega) (by omega) (by omega)]
  simp only [Option.bind_some]
  rw [Pl.valid_cl (by omega) (by omega) (by omega), Pl.rvalid_cl (by omega) (by omega) (by omega)]
  simp only [Option.bind_some, beq_self_eq_true, if_true]
  rw [Pl.has_cl (by omega) (by omega) (by omega) hoB, Pl.rhas_cl (by omega) (by omega) (by omega)]
  simp only [Option.bind_some, beq_self_eq_true, if_true]
  have hs := Pl.addR_small o n h1 h2
  have hs2 := hs.2
  rw [Pl.same_cl (by have := hs.1; omega) (by have := hs.1; omega) (by omega)]
  simp only [Option.bind_some, if_true]
  rw [Pl.missing_cl (by omega) (by omega) (by omega) hoB (by omega), Pl.rmissing_cl (by omega) (by omega) (by omega) (by omega)]
  simp only [Option.bind_some]
  have hml := missR_len l o m
  rw [Pl.ints_cl (by omega) (by omega)]
  rfl
end Go.Proofs.Ytjibgfihfbdcaaa.Pure
