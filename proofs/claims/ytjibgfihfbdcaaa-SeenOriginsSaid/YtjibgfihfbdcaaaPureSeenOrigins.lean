/- SeenOrigins holds. No condition. -/
import Derived.Test.YtjibgfihfbdcaaaPSeenx15
import Derived.Test.YtjibgfihfbdcaaaSeenHead
import Derived.Test.YtjibgfihfbdcaaaSeenRefB
namespace Go.Proofs.Ytjibgfihfbdcaaa.Pl
open Go.RowKit Go.Proofs.Ytjibgfihfbdcaaa.PSeen Go.Proofs.YtjibgfihfbdcaaaW.PrintWords
/-- The loop that compares: what follows, where the two are one list. -/
theorem orig_l0 (l : List S45) (o n : Int) (m : List S45) (X : List S47) (hX : X.length ≤ 1000000) (r : Option Bool) (B : Nat)
    (hR : ∀ k, B ≤ k → ((slotmeshref26_Of.f k l o).bind fun t367 => (if (t367.length : Int) > 0 then ((slotmeshlaw26_of.f o t367).bind fun t370 => (slotmeshlaw26_SeenOrigins.j2 k true o n m t370)) else (slotmeshlaw26_SeenOrigins.j2 k true o n m ([] : List (S45))))) = r) :
    ∀ (d i k : Nat), i + d = X.length → B + d < k → slotmeshlaw26_SeenOrigins.l0 k l true o n m X X (X.length : Int) (i : Int) = r
  | 0, i, k, hi, hk => by
    obtain ⟨k, rfl⟩ := pos_k hk
    simp only [slotmeshlaw26_SeenOrigins.l0]
    rw [if_neg (by omega)]
    exact hR k (by omega)
  | d + 1, i, k, hi, hk => by
    obtain ⟨k, rfl⟩ := pos_k hk
    simp only [slotmeshlaw26_SeenOrigins.l0]
    rw [if_pos (by omega), if_pos (by omega), if_pos (by omega), if_pos (by omega), if_neg (by simp), up (by omega)]
    exact orig_l0 l o n m X hX r B hR d (i + 1) k (by omega) (by omega)
end Go.Proofs.Ytjibgfihfbdcaaa.Pl
namespace Go.Proofs.Ytjibgfihfbdcaaa.Pure
open Go.RowKit Go.Proofs.Ytjibgfihfbdcaaa.PSeen Go.Proofs.YtjibgfihfbdcaaaW.PrintWords
set_option linter.unusedVariables false
theorem one_V {o : Int} {X : List S47} (ho : 0 ≤ o ∧ o ≤ 59) (hX : Pl.WR (-1) X) (hn : X ≠ []) (hl : X.length ≤ 64) : Pl.okV [⟨o, X⟩] = true :=
  Pl.okV_iff.2 ⟨by simpa [Pl.totL] using hl, (show (-1 : Int) < o by omega), ho.2, hn, hX, trivial⟩
theorem SeenOrigins (l : List S45) (a b c : Int)
    (hl : l.length * 32 ≤ 140737488351232 ∧ ∀ s ∈ l, (Lit.int .i64 s.f0).wf = true ∧ s.f1.length * 16 ≤ 140737488351232 ∧ ∀ x ∈ s.f1, (Lit.int .i64 x.f0).wf = true ∧ (Lit.int .i64 x.f1).wf = true)
    (ha : (Lit.int .u8 a).wf = true) (hb : (Lit.int .u32 b).wf = true) (hc : (Lit.int .u8 c).wf = true) : ∃ k, slotmeshlaw26_SeenOrigins.f k l a b c = some true := by
  refine ⟨200000, ?_⟩
  have hr : Pl.Reach l := fun s hs => by have := (hl.2 s hs).2.1; omega
  have haB := Pl.wf8 ha
  have hbB := Pl.wf32 hb
  have hcB := Pl.wf8 hc
  unfold slotmeshlaw26_SeenOrigins.f
  rw [Pl.head_cl (by omega), Pl.few_cl (by omega) hr]
  simp only [Option.bind_some]
  cases hf : Pl.fewB l with
  | false => simp [slotmeshlaw26_SeenOrigins.j0]
  | true =>
  obtain ⟨h1, h2⟩ := Pl.few_yes hf
  rw [if_pos rfl, Pl.rvalid_cl (by omega) (by omega) (by omega)]
  simp only [Option.bind_some]
  cases hv : Pl.okV l with
  | false => simp [slotmeshlaw26_SeenOrigins.j0]
  | true =>
  obtain ⟨l1, l2, l3⟩ := Pl.okV_len hv
  have tm : Int.tmod (wrap64 a) 60 = a % 60 := by rw [Pl.w64 (by omega) (by omega)]; exact Int.tmod_eq_emod_of_nonneg haB.1
  have tc : Int.tmod (wrap64 c) 60 = c % 60 := by rw [Pl.w64 (by omega) (by omega)]; exact Int.tmod_eq_emod_of_nonneg hcB.1
  have tn : wrap64 (1 + Int.tmod (wrap64 b) 1000000000) = 1 + b % 1000000000 := by rw [Pl.w64 (x := b) (by omega) (by omega), Int.tmod_eq_emod_of_nonneg hbB.1]; exact Pl.w64 (by omega) (by omega)
  obtain ⟨o, hoE⟩ : ∃ o, a % 60 = o := ⟨_, rfl⟩
  obtain ⟨p, hpE⟩ : ∃ p, c % 60 = p := ⟨_, rfl⟩
  obtain ⟨n, hnE⟩ : ∃ n, 1 + b % 1000000000 = n := ⟨_, rfl⟩
  have ho : 0 ≤ o ∧ o ≤ 59 := by omega
  have hn : 1 ≤ n ∧ n ≤ 1000000000 := by omega
  rw [if_pos rfl, Int.tmod_eq_emod_of_nonneg haB.1, Int.tmod_eq_emod_of_nonneg hcB.1, hoE, hpE]
  simp only [slotmeshlaw26_SeenOrigins.j0, tm, tc, tn, hoE, hnE, hpE]
  by_cases hop : o = p
  · rw [if_pos (by simpa using hop)]
  rw [if_neg (by simpa using hop), Pl.add_cl (by omega) (by omega) (by omega)]
  simp only [Option.bind_some]
  -- what follows, for lists m whose origin's intervals are V
  have fin : ∀ (m : List S45) (V : List S47), m.length ≤ 100 → Pl.totL m ≤ 100 → Pl.OfL m p = Pl.OfL l p → Pl.OfL m o = V → V ≠ [] → V.length ≤ 64 →
      (∀ al : List S45, (Pl.OfL l o ≠ [] → al = [⟨o, Pl.OfL l o⟩]) → (Pl.OfL l o = [] → al = []) → Pl.addR al o n = ([⟨o, V⟩], (Pl.addR al o n).2.1, 0)) →
      ((slotmeshref26_Of.f 199999 l p).bind fun t359 => (slotmeshref26_Of.f 199999 m p).bind fun t362 => (if (t359.length : Int) = (t362.length : Int) then (slotmeshlaw26_SeenOrigins.l0 199999 l true o n m t359 t362 (t359.length : Int) 0) else (some false))) = some true := by
    intro m V hm1 hm2 e1 e2 hV hVl he
    rw [Pl.of_cl (by omega) (by omega), Pl.of_cl (by omega) (by omega), e1]
    simp only [Option.bind_some, if_true]
    have hlp := Pl.WR_len p l3
    have hlo := Pl.WR_len o l3
    refine Pl.orig_l0 l o n m (Pl.OfL l p) (by omega) (some true) 100000 (fun k hk => ?_) (Pl.OfL l p).length 0 199999 (by omega) (by omega)
    obtain ⟨k, rfl⟩ : ∃ q, k = q + 1 := ⟨k - 1, by omega⟩
    rw [Pl.of_cl (by omega) (by omega)]
    simp only [Option.bind_some, slotmeshlaw26_of.f]
    have step : ∀ al : List S45, al.length ≤ 1 → Pl.totL al ≤ 64 → (Pl.OfL l o ≠ [] → al = [⟨o, Pl.OfL l o⟩]) → (Pl.OfL l o = [] → al = []) → slotmeshlaw26_SeenOrigins.j2 (k + 1) true o n m al = some true := fun al g1 g2 g3 g4 => by
      simp only [slotmeshlaw26_SeenOrigins.j2, slotmeshlaw26_of.f]
      rw [Pl.add_cl (by omega) (by omega) (by omega), he al g3 g4, Pl.of_cl (by omega) (by omega), e2]
      simp only [Option.bind_some, if_true]
      rw [Pl.same_cl (by simp [Pl.totL]; omega) (by simp) (by simp [Pl.totL]; omega)]
      rfl
    by_cases hz : Pl.OfL l o = []
    · rw [hz, if_neg (by simp)]
      exact step [] (by simp) (by simp [Pl.totL]) (fun h => absurd hz h) (fun _ => rfl)
    · rw [if_pos (by have := List.length_pos_iff.2 hz; omega)]
      exact step _ (by simp) (by simp [Pl.totL]; omega) (fun _ => rfl) (fun h => absurd h hz)
  have hwo := Pl.OfL_WR o l3
  rcases Pl.addR_cases l o n with ⟨_, e⟩ | ⟨hvv, ⟨hin, e⟩ | ⟨hin, ht, e⟩ | ⟨hin, ht, e⟩⟩
  · exact absurd ⟨hv, ho, hn⟩ e
  · rw [e]
    simp only [if_true]
    have hne : Pl.OfL l o ≠ [] := fun h => by rw [h] at hin; cases hin
    have hlo := Pl.WR_len o l3
    refine fin l (Pl.OfL l o) h1 h2 rfl rfl hne (by omega) (fun al g1 g2 => ?_)
    obtain rfl := g1 hne
    have hO : Pl.OfL [⟨o, Pl.OfL l o⟩] o = Pl.OfL l o := by rw [Pl.OfL, if_pos rfl]
    rw [Pl.addR_ok ⟨one_V ho hwo hne (by omega), ho, hn⟩, hO, if_pos hin]
  · rw [e]
    simp
  · rw [e]
    simp only [if_true]
    have hw := Pl.addR_okV hvv ht
    obtain ⟨m1, m2, m3⟩ := Pl.okV_len hw
    have eo : Pl.OfL (Pl.addL l o n) o = Pl.putR n (Pl.OfL l o) := by unfold Pl.addL; rw [Pl.OfL_putS, if_pos rfl]
    have ep : Pl.OfL (Pl.addL l o n) p = Pl.OfL l p := by unfold Pl.addL; rw [Pl.OfL_putS, if_neg hop]
    have hlo := Pl.WR_len o m3
    rw [eo] at hlo
    refine fin (Pl.addL l o n) (Pl.putR n (Pl.OfL l o)) (by omega) (by omega) ep eo (Pl.putR_ne hwo (by omega) hn.2) (by omega) (fun al g1 g2 => ?_)
    have hl2 := Pl.WR_len o l3
    by_cases hz : Pl.OfL l o = []
    · obtain rfl := g2 hz
      have hO : Pl.OfL ([] : List S45) o = [] := rfl
      have hA : Pl.addL [] o n = [⟨o, Pl.putR n []⟩] := rfl
      rw [Pl.addR_ok ⟨rfl, ho, hn⟩, hO, hA, hz]
      rw [hz] at hlo
      rw [if_neg (by simp [Pl.rinB]), if_neg (by simp [Pl.totL]; omega)]
    · obtain rfl := g1 hz
      have hO : Pl.OfL [⟨o, Pl.OfL l o⟩] o = Pl.OfL l o := by rw [Pl.OfL, if_pos rfl]
      have hA : Pl.addL [⟨o, Pl.OfL l o⟩] o n = [⟨o, Pl.putR n (Pl.OfL l o)⟩] := by unfold Pl.addL; rw [hO, Pl.putS, if_neg (Int.lt_irrefl o), if_pos rfl]
      rw [Pl.addR_ok ⟨one_V ho hwo hz (by omega), ho, hn⟩, hO, hA, hin, if_neg (by simp), if_neg (by simp [Pl.totL]; omega)]
end Go.Proofs.Ytjibgfihfbdcaaa.Pure
