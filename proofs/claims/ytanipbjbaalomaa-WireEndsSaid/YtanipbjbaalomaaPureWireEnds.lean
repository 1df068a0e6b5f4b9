/- WireEnds holds. No condition. -/
import Derived.Test.YtanipbjbaalomaaPWirex13
import Derived.Test.YtanipbjbaalomaaWireUp
namespace Go.Proofs.Ytanipbjbaalomaa.Pure
open Go.RowKit Go.Proofs.Ytanipbjbaalomaa.PWire Go.Proofs.YtanipbjbaalomaaW.PrintWords Go.Proofs.YtanipbjbaalomaaW.PrintLast
set_option linter.unusedVariables false

theorem pick_cl {c : Int} {n : Nat} (h0 : -9223372036854775808 ≤ c) (h1 : c < 9223372036854775808) (hn : 0 < n) : ∃ m : Nat, slotmeshlaw04_pick.f c (n : Int) = some (m : Int) ∧ m < n := by
  have key : ∀ z : Int, 0 ≤ z → ∃ m : Nat, (some (Int.tmod z (n : Int)) : Option Int) = some (m : Int) ∧ m < n := by
    intro z hz
    rw [Pl.tmod_nn hz]
    have e0 := Int.emod_nonneg z (show (n : Int) ≠ 0 by omega)
    have e1 := Int.emod_lt_of_pos z (show (0 : Int) < n by omega)
    exact ⟨(z % (n : Int)).toNat, by rw [Int.toNat_of_nonneg e0], by omega⟩
  unfold slotmeshlaw04_pick.f
  by_cases h : c < 0
  · rw [if_pos h, if_neg (by omega), Pl.w64 (z := c + 1) (by omega) (by omega), Pl.w64 (z := -(c + 1)) (by omega) (by omega)]
    exact key _ (by omega)
  · rw [if_neg h, if_neg (by omega)]
    exact key _ (by omega)
theorem WireEnds (a0 a1 a2 a3 a4 : Int) (b : List Int) (c : Int) (x : List Int)
    (_ : (Lit.int .i64 a0).wf = true) (_ : (Lit.int .i64 a1).wf = true) (_ : (Lit.int .i64 a2).wf = true) (_ : (Lit.int .i64 a3).wf = true) (_ : (Lit.int .i64 a4).wf = true)
    (hb : b.length ≤ maxLen ∧ ∀ n ∈ b, (Lit.int .u8 n).wf = true) (hc : (Lit.int .i64 c).wf = true)
    (hx : x.length ≤ maxLen ∧ ∀ n ∈ x, (Lit.int .u8 n).wf = true) : ∃ k, slotmeshlaw04_WireEnds.f k a0 a1 a2 a3 a4 b c x = some true := by
  refine ⟨100000, ?_⟩
  have hbB := Pl.isB_wf hb.2
  have hxB := Pl.isB_wf hx.2
  have hc' : -9223372036854775808 ≤ c ∧ c < 9223372036854775808 := by
    simp [Lit.wf, show IntKind.i64.min = -9223372036854775808 from by decide] at hc
    omega
  unfold slotmeshlaw04_WireEnds.f
  rw [Pl.head_cl (by omega)]
  simp only [Option.bind_some]
  have T : ∀ y, (y = false → b.length ≤ 6000 ∧ x.length ≤ 6000) → slotmeshlaw04_WireEnds.j0 100000 c x true y a0 a1 a2 a3 a4 b = some true := by
    intro y hy
    simp only [slotmeshlaw04_WireEnds.j0]
    cases y with
    | true => simp
    | false =>
      obtain ⟨hlb, hlx⟩ := hy rfl
      rw [if_neg (by simp), Pl.pack_cl _ _ _ _ _ _ (by omega)]
      simp only [Option.bind_some]
      unfold Pl.pck
      by_cases h : Pl.okF a0 a1 a2 a3 a4 b = true
      · rw [if_pos h]
        have hA := Pl.upk_pck h
        have hAl := Pl.pck_len h
        have hAB := Pl.isB_pck (a0 := a0) (a1 := a1) (a2 := a2) (a3 := a3) (a4 := a4) hbB
        generalize Pl.hd5 a0 a1 a2 a3 a4 ++ Pl.wn b.length ++ b = A at *
        obtain ⟨m, hm, hml⟩ := pick_cl (n := A.length) hc'.1 hc'.2 (by omega)
        obtain ⟨e0, e1, e2, e3, e4, e5, F⟩ := Pl.fr_of_unpack hAB hA
        simp only [if_true]
        rw [if_neg (by omega), hm]
        simp only [Option.bind_some]
        rw [if_pos (by omega), if_pos (by omega), Int.toNat_natCast, Pl.unpack_cl (by omega) (Pl.isB_take hAB m) (by rw [List.length_take]; omega), F.cut hAB m hml]
        simp only [Option.bind_some, List.replicate_zero, List.nil_append, List.length_nil]
        have hB2 : Pl.isB (A ++ x) = true := by rw [Pl.isB_append, hAB, hxB]; rfl
        rw [if_pos (by omega), if_pos (by omega), if_pos (by omega), Pl.unpack_cl (by omega) hB2 (by rw [List.length_append]; omega)]
        simp only [Option.bind_some, if_true]
        by_cases hx0 : x = []
        · subst hx0
          rw [List.append_nil, hA]
          simp
        · have hxl : x.length ≠ 0 := by simpa using hx0
          rw [F.more hAB x hx0, if_neg (by omega), if_pos (by omega)]
          rfl
      · rw [if_neg h]
        rfl
  by_cases hl : (b.length : Int) > 6000
  · rw [if_pos hl]
    exact T true (by simp)
  · rw [if_neg hl]
    exact T _ (fun h => by have := of_decide_eq_false h; omega)

end Go.Proofs.Ytanipbjbaalomaa.Pure
