/- For every frame that Pack has bytes for, Unpack returns it, and the bytes of what Unpack returns for any bytes are these (bodies and bytes of up to 6000). No condition. -/
import Derived.Test.YtanipbjbaalomaaPWirex10
import Derived.Test.YtanipbjbaalomaaWireUp
namespace Go.Proofs.Ytanipbjbaalomaa.Pure
open Go.RowKit Go.Proofs.Ytanipbjbaalomaa.PWire Go.Proofs.YtanipbjbaalomaaW.PrintWords Go.Proofs.YtanipbjbaalomaaW.PrintLast

theorem WireFrames (a0 a1 a2 a3 a4 : Int) (b x : List Int) (_ : (Lit.int .i64 a0).wf = true) (_ : (Lit.int .i64 a1).wf = true) (_ : (Lit.int .i64 a2).wf = true) (_ : (Lit.int .i64 a3).wf = true) (_ : (Lit.int .i64 a4).wf = true)
    (hb : b.length ≤ maxLen ∧ ∀ n ∈ b, (Lit.int .u8 n).wf = true) (hx : x.length ≤ maxLen ∧ ∀ n ∈ x, (Lit.int .u8 n).wf = true) : ∃ k, slotmeshlaw04_WireFrames.f k a0 a1 a2 a3 a4 b x = some true := by
  refine ⟨100000, ?_⟩
  have hbB := Pl.isB_wf hb.2
  have hxB := Pl.isB_wf hx.2
  unfold slotmeshlaw04_WireFrames.f
  rw [Pl.head_cl (by omega)]
  simp only [Option.bind_some]
  have J1 : x.length ≤ 6000 → slotmeshlaw04_WireFrames.j1 99999 x true = some true := by
    intro hl
    simp only [slotmeshlaw04_WireFrames.j1]
    rw [Pl.unpack_cl (by omega) hxB (by omega)]
    simp only [Option.bind_some, if_true]
    obtain ⟨r0, r1, r2, r3, r4, rb, re, hr⟩ : ∃ r0 r1 r2 r3 r4 rb re, Pl.upk x = (r0, r1, r2, r3, r4, rb, re) := ⟨_, _, _, _, _, _, _, rfl⟩
    rw [hr]
    simp only
    by_cases he : re = 0
    · subst he
      obtain ⟨hp, hok⟩ := Pl.pck_upk hxB hr
      rw [if_pos rfl, Pl.pack_cl _ _ _ _ _ _ (by omega), hp]
      simp only [Option.bind_some, if_true]
      rw [Pl.same_all (by omega) (by omega)]
      simp
    · rw [if_neg he]
  have J0 : ∀ y, (y = false → b.length ≤ 6000 ∧ x.length ≤ 6000) → slotmeshlaw04_WireFrames.j0 100000 x true y a0 a1 a2 a3 a4 b = some true := by
    intro y hy
    simp only [slotmeshlaw04_WireFrames.j0]
    cases y with
    | true => simp
    | false =>
      obtain ⟨hlb, hlx⟩ := hy rfl
      rw [if_neg (by simp), Pl.pack_cl _ _ _ _ _ _ (by omega)]
      simp only [Option.bind_some]
      unfold Pl.pck
      by_cases hok : Pl.okF a0 a1 a2 a3 a4 b = true
      · rw [if_pos hok]
        have hl := (Pl.pck_len hok).1
        simp only [if_true]
        rw [Pl.unpack_cl (by omega) (Pl.isB_pck hbB) (by omega), Pl.upk_pck hok]
        simp only [Option.bind_some, if_true]
        rw [Pl.sameFrame_cl _ _ _ _ _ _ _ _ _ _ _ _ (by omega) (by omega)]
        simp only [Option.bind_some, and_self, decide_true]
        exact J1 hlx
      · rw [if_neg hok]
        simp only
        rw [if_neg (by decide)]
        exact J1 hlx
  by_cases h1 : (b.length : Int) > 6000
  · rw [if_pos h1]
    exact J0 true (by simp)
  · rw [if_neg h1]
    exact J0 _ (fun h => by
      have := of_decide_eq_false h
      omega)

end Go.Proofs.Ytanipbjbaalomaa.Pure
