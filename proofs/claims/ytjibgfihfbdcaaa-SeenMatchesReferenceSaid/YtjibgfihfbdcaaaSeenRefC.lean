/- Closed forms of the reference of package seen: with, Add, Missing. -/
import Derived.Test.YtjibgfihfbdcaaaPSeenx12
import Derived.Test.YtjibgfihfbdcaaaSeenRefB
namespace Go.Proofs.Ytjibgfihfbdcaaa.Pl
open Go.RowKit Go.Proofs.Ytjibgfihfbdcaaa.PSeen Go.Proofs.YtjibgfihfbdcaaaW.PrintWords
set_option linter.unusedVariables false
set_option linter.unusedSimpArgs false
/-- with: the elements behind. -/
theorem with_hi (X : List S47) (hX : X.length ≤ 1000000) (n : Int) (hn : 1 ≤ n ∧ n ≤ 1000000000) : ∀ (d i k : Nat) (B A : List S47) (p q b : Int), i + d = X.length → d < k → WR b (X.drop i) → n ≤ b → A.length + d ≤ 1000000 → B.length ≤ 1000000 →
    slotmeshref26_with.l0 k X n B A (i : Int) p q = some (B ++ [⟨p, q⟩] ++ (A ++ X.drop i))
  | 0, i, k, B, A, p, q, b, hi, hk, hw, hb, hA, hB => by
    obtain ⟨k, rfl⟩ := pos_k hk
    simp only [slotmeshref26_with.l0, Option.bind_some]
    rw [if_neg (by omega), if_pos (by omega), if_pos (by simp only [List.length_append, List.length_singleton]; omega), List.drop_eq_nil_of_le (by omega), List.append_nil]
  | d + 1, i, k, B, A, p, q, b, hi, hk, hw, hb, hA, hB => by
    obtain ⟨k, rfl⟩ := pos_k hk
    have hlt : i < X.length := by omega
    have hd := List.drop_eq_getElem_cons hlt
    rw [hd] at hw
    obtain ⟨h1, h2, h3, h4⟩ := hw
    simp only [slotmeshref26_with.l0]
    rw [if_pos (by omega), if_pos (by omega), rd47 hlt, w64 (x := n - 1) (by omega) (by omega), w64 (x := n + 1) (by omega) (by omega), up (by omega), if_neg (by omega), if_neg (by omega), if_neg (by omega), if_pos (by omega),
      with_hi X hX n hn d (i + 1) k B (A ++ [(⟨X[i].f0, X[i].f1⟩ : S47)]) p q X[i].f1 (by omega) (by omega) h4 (by omega) (by simp; omega) hB, hd]
    simp only [List.append_assoc, List.cons_append, List.nil_append]
theorem with_lo (X : List S47) (hX : X.length ≤ 1000000) (n : Int) (hn : 1 ≤ n ∧ n ≤ 1000000000) : ∀ (d i k : Nat) (B : List S47) (b : Int), i + d = X.length → d < k → WR b (X.drop i) → b + 1 < n → -1 ≤ b → ¬ Rin (X.drop i) n → B.length + d ≤ 1000000 →
    slotmeshref26_with.l0 k X n B [] (i : Int) n n = some (B ++ insR n (X.drop i))
  | 0, i, k, B, b, hi, hk, hw, hb, hb1, hr, hB => by
    obtain ⟨k, rfl⟩ := pos_k hk
    simp only [slotmeshref26_with.l0, Option.bind_some]
    rw [if_neg (by omega), if_pos (by omega), if_pos (by simp only [List.length_append, List.length_singleton, List.length_nil]; omega), List.drop_eq_nil_of_le (by omega), List.append_nil]
    rfl
  | d + 1, i, k, B, b, hi, hk, hw, hb, hb1, hr, hB => by
    obtain ⟨k, rfl⟩ := pos_k hk
    have hlt : i < X.length := by omega
    have hd := List.drop_eq_getElem_cons hlt
    rw [hd] at hw hr
    obtain ⟨h1, h2, h3, h4⟩ := hw
    have hx : ¬ (X[i].f0 ≤ n ∧ n ≤ X[i].f1) := fun h => hr (Rin_cons.2 (.inl h))
    have hxs : ¬ Rin (X.drop (i + 1)) n := fun h => hr (Rin_cons.2 (.inr h))
    simp only [slotmeshref26_with.l0]
    rw [if_pos (by omega), if_pos (by omega), rd47 hlt, w64 (x := n - 1) (by omega) (by omega), w64 (x := n + 1) (by omega) (by omega), up (by omega), hd, insR.eq_def]
    simp only
    by_cases c1 : X[i].f1 + 1 < n
    · rw [if_neg (by omega), if_neg (by omega), if_pos (by omega), if_pos (by omega), if_pos c1, with_lo X hX n hn d (i + 1) k (B ++ [(⟨X[i].f0, X[i].f1⟩ : S47)]) X[i].f1 (by omega) (by omega) h4 c1 (by omega) hxs (by simp; omega)]
      simp only [List.append_assoc, List.cons_append, List.nil_append]
    rw [if_neg c1]
    by_cases c2 : n + 1 < X[i].f0
    · rw [if_neg (by omega), if_neg (by omega), if_neg (by omega), if_pos (by simp), if_pos c2, with_hi X hX n hn d (i + 1) k B ([] ++ [(⟨X[i].f0, X[i].f1⟩ : S47)]) n n X[i].f1 (by omega) (by omega) h4 (by omega) (by simp; omega) (by omega)]
      simp only [List.append_assoc, List.cons_append, List.nil_append]
    rw [if_neg c2]
    by_cases c3 : n + 1 = X[i].f0
    · rw [if_neg (by omega), if_pos (by omega), if_pos c3, with_hi X hX n hn d (i + 1) k B [] n X[i].f1 X[i].f1 (by omega) (by omega) h4 (by omega) (by simp; omega) (by omega)]
      simp only [List.append_assoc, List.cons_append, List.nil_append]
    rw [if_neg c3]
    have c4 : X[i].f1 + 1 = n := by omega
    rw [if_pos c4, if_pos (by omega)]
    cases d with
    | zero =>
      obtain ⟨k, rfl⟩ : ∃ m, k = m + 1 := pos_k (d := 0) (by omega)
      simp only [slotmeshref26_with.l0, Option.bind_some]
      rw [if_neg (by omega), if_pos (by omega), if_pos (by simp only [List.length_append, List.length_singleton, List.length_nil]; omega), List.drop_eq_nil_of_le (by omega), List.append_nil]
    | succ d =>
      obtain ⟨k, rfl⟩ : ∃ m, k = m + 1 := pos_k (d := 0) (by omega)
      have hlt2 : i + 1 < X.length := by omega
      have hd2 := List.drop_eq_getElem_cons hlt2
      rw [hd2] at h4 ⊢
      obtain ⟨g1, g2, g3, g4⟩ := h4
      simp only [slotmeshref26_with.l0]
      rw [if_pos (by omega), if_pos (by omega), rd47 hlt2, w64 (x := n - 1) (by omega) (by omega), w64 (x := n + 1) (by omega) (by omega), up (by omega), if_neg (by omega)]
      by_cases c5 : n + 1 = X[i + 1].f0
      · rw [if_pos c5.symm, if_pos c5, with_hi X hX n hn d (i + 1 + 1) k B [] X[i].f0 X[i + 1].f1 X[i + 1].f1 (by omega) (by omega) g4 (by omega) (by simp; omega) (by omega)]
        simp only [List.append_assoc, List.cons_append, List.nil_append]
      · rw [if_neg (fun h => c5 h.symm), if_neg c5, if_neg (by omega), if_pos (by simp), with_hi X hX n hn d (i + 1 + 1) k B ([] ++ [(⟨X[i + 1].f0, X[i + 1].f1⟩ : S47)]) X[i].f0 n X[i + 1].f1 (by omega) (by omega) g4 (by omega) (by simp; omega) (by omega)]
        simp only [List.append_assoc, List.cons_append, List.nil_append]
theorem with_cl {X : List S47} {n : Int} {k : Nat} (hk : X.length < k) (hX : X.length ≤ 1000000) (hw : WR (-1) X) (hn : 1 ≤ n ∧ n ≤ 1000000000) (hr : ¬ Rin X n) : slotmeshref26_with.f k X n = some (putR n X) := by
  have := with_lo X hX n hn X.length 0 k [] (-1) (by omega) hk (by rw [List.drop_zero]; exact hw) (by omega) (by omega) (by rw [List.drop_zero]; exact hr) (by simp only [List.length_nil]; omega)
  rw [List.drop_zero, List.nil_append] at this
  rw [putR_insR hw (by omega) hn.2]
  exact this
/-- The rest of the lists, behind the place. -/
theorem radd_hi (l : List S45) (hl : l.length ≤ 1000) (o n : Int) : ∀ (d i k : Nat) (out : List S45) (b : Int), i + d = l.length → 2 * d + 3000 < k → WS b (l.drop i) → o ≤ b → out.length + d ≤ 1000 → totL (out ++ l.drop i) ≤ 1000000 →
    slotmeshref26_Add.l0 k l o n out true (i : Int) = some (if totL (out ++ l.drop i) > 64 then ([], false, 10) else (out ++ l.drop i, true, 0))
  | 0, i, k, out, b, hi, hk, hw, hb, ho, ht => by
    obtain ⟨k, rfl⟩ : ∃ m, k = m + 1 := ⟨k - 1, by omega⟩
    simp only [slotmeshref26_Add.l0, if_true]
    rw [if_neg (by omega)]
    rw [List.drop_eq_nil_of_le (by omega), List.append_nil] at ht ⊢
    rw [rmany_cl (by omega) (by omega) (by omega)]
    simp only [Option.bind_some]
    by_cases hg : totL out > 64
    · rw [if_pos hg, if_pos (by omega)]
    · rw [if_neg hg, if_neg (by omega)]
  | d + 1, i, k, out, b, hi, hk, hw, hb, ho, ht => by
    obtain ⟨k, rfl⟩ : ∃ m, k = m + 2 := ⟨k - 2, by omega⟩
    have hlt : i < l.length := by omega
    have hd := List.drop_eq_getElem_cons hlt
    rw [hd] at hw ht ⊢
    obtain ⟨h1, h2, h3, h4, h5⟩ := hw
    have e : out ++ l[i] :: l.drop (i + 1) = (out ++ [l[i]]) ++ l.drop (i + 1) := by simp
    rw [e] at ht ⊢
    simp only [slotmeshref26_Add.l0, slotmeshref26_Add.j2, if_true]
    rw [if_pos (by omega), if_neg (by simp), if_pos (by omega), if_pos (by omega), rd45 hlt, up (by omega), if_neg (by omega), if_pos (by omega)]
    exact radd_hi l hl o n d (i + 1) k (out ++ [l[i]]) l[i].f0 (by omega) (by omega) h5 (by omega) (by simp; omega) ht
theorem radd_lo (l : List S45) (hl : l.length ≤ 64) (ht : totL l ≤ 64) (hv : WS (-1) l) (o n : Int) (ho : 0 ≤ o ∧ o ≤ 59) (hn : 1 ≤ n ∧ n ≤ 1000000000) (hr : ¬ Rin (OfL l o) n) : ∀ (d i k : Nat) (b : Int), i + d = l.length → 2 * d + 5000 < k → WS b (l.drop i) → b < o → -1 ≤ b → OfL l o = OfL (l.drop i) o → l.take i ++ putS o (putR n (OfL l o)) (l.drop i) = addL l o n →
    slotmeshref26_Add.l0 k l o n (l.take i) false (i : Int) = some (if totL (addL l o n) > 64 then ([], false, 10) else (addL l o n, true, 0))
  | 0, i, k, b, hi, hk, hw, hb, hb1, hof, hp => by
    obtain ⟨k, rfl⟩ : ∃ m, k = m + 1 := ⟨k - 1, by omega⟩
    have hdn : l.drop i = [] := List.drop_eq_nil_of_le (by omega)
    rw [hdn] at hof
    have hnil : OfL l o = [] := hof
    rw [hdn, hnil] at hp
    have hp2 : l.take i ++ [⟨o, putR n []⟩] = addL l o n := hp
    have hwith := with_cl (X := []) (n := n) (k := k) (by simp; omega) (by simp) trivial hn (Rin_nil _)
    simp only [slotmeshref26_Add.l0]
    rw [if_neg (by omega), if_neg (by simp), hwith]
    simp only [Option.bind_some]
    rw [if_pos (by rw [List.length_take]; omega), hp2]
    have hw2 := addL_WS hv ho hn
    have hlen := WS_len hw2
    have hle : totL (addL l o n) ≤ 65 := by
      have := addL_tot hv ho hn hr
      have g : ∀ b, 0 ≤ one b := fun b => by unfold one; split <;> omega
      have := g (rinB (OfL l o) (n - 1))
      have := g (rinB (OfL l o) (n + 1))
      omega
    rw [rmany_cl (by omega) (by omega) (by omega)]
    simp only [Option.bind_some]
    by_cases hg : totL (addL l o n) > 64
    · rw [if_pos hg, if_pos (by omega)]
    · rw [if_neg hg, if_neg (by omega)]
  | d + 1, i, k, b, hi, hk, hw, hb, hb1, hof, hp => by
    obtain ⟨k, rfl⟩ : ∃ m, k = m + 2 := ⟨k - 2, by omega⟩
    have hlt : i < l.length := by omega
    have hd := List.drop_eq_getElem_cons hlt
    rw [hd] at hw hof hp
    obtain ⟨h1, h2, h3, h4, h5⟩ := hw
    have hle : totL (addL l o n) ≤ 65 := by
      have := addL_tot hv ho hn hr
      have g : ∀ b, 0 ≤ one b := fun b => by unfold one; split <;> omega
      have := g (rinB (OfL l o) (n - 1))
      have := g (rinB (OfL l o) (n + 1))
      omega
    have hlo := WR_len o hv
    simp only [slotmeshref26_Add.l0, slotmeshref26_Add.j2]
    rw [if_pos (by omega), if_neg (by simp), if_pos (by omega), rd45 hlt, up (by omega)]
    by_cases c1 : l[i].f0 ≥ o
    · rw [decide_eq_true c1]
      simp only [if_true]
      rw [of_cl (by omega) (by omega)]
      simp only [Option.bind_some]
      rw [with_cl (by omega) (by omega) (OfL_WR o hv) hn hr]
      simp only [Option.bind_some]
      rw [if_pos (by rw [List.length_take]; omega), if_pos (by omega), if_pos (by omega)]
      by_cases c2 : l[i].f0 = o
      · rw [if_pos c2]
        rw [putS, if_neg (by omega), if_pos c2] at hp
        have e : l.take i ++ ⟨o, putR n (OfL l o)⟩ :: l.drop (i + 1) = (l.take i ++ [⟨o, putR n (OfL l o)⟩]) ++ l.drop (i + 1) := by simp
        rw [e] at hp
        have := radd_hi l (by omega) o n d (i + 1) k (l.take i ++ [⟨o, putR n (OfL l o)⟩]) l[i].f0 (by omega) (by omega) h5 (by omega) (by simp; omega) (by rw [hp]; omega)
        rw [hp] at this
        exact this
      · rw [if_neg c2, if_pos (by simp; omega)]
        rw [putS, if_neg (by omega), if_neg c2] at hp
        have e : l.take i ++ ⟨o, putR n (OfL l o)⟩ :: l[i] :: l.drop (i + 1) = (l.take i ++ [⟨o, putR n (OfL l o)⟩] ++ [l[i]]) ++ l.drop (i + 1) := by simp
        rw [e] at hp
        have := radd_hi l (by omega) o n d (i + 1) k (l.take i ++ [⟨o, putR n (OfL l o)⟩] ++ [l[i]]) l[i].f0 (by omega) (by omega) h5 (by omega) (by simp; omega) (by rw [hp]; omega)
        rw [hp] at this
        exact this
    · rw [decide_eq_false c1]
      rw [if_neg (by simp), if_pos (by omega), if_pos (by omega), if_neg (by omega), if_pos (by rw [List.length_take]; omega)]
      have ht1 : l.take i ++ [⟨l[i].f0, l[i].f1⟩] = l.take (i + 1) := by rw [List.take_succ_eq_append_getElem hlt]
      rw [ht1]
      refine radd_lo l hl ht hv o n ho hn hr d (i + 1) k l[i].f0 (by omega) (by omega) h5 (by omega) (by omega) ?_ ?_
      · rw [hof, OfL, if_neg (by omega)]
      · rw [← hp, putS, if_pos (by omega), List.take_succ_eq_append_getElem hlt, List.append_assoc]
        rfl
theorem radd_cl {l : List S45} {o n : Int} {k : Nat} (hk : totL l + 6 * l.length + 6000 < k) (hl : l.length ≤ 1000000000) (hz : totL l ≤ 1000000000) : slotmeshref26_Add.f k l o n = some (addR l o n) := by
  obtain ⟨k, rfl⟩ : ∃ m, k = m + 1 := ⟨k - 1, by omega⟩
  unfold slotmeshref26_Add.f
  rw [rvalid_cl (by omega) hl hz]
  simp only [Option.bind_some]
  cases hv : okV l with
  | false =>
    rw [if_neg (by simp), addR_bad (by rw [hv]; simp)]
    simp only [slotmeshref26_Add.j0, if_true]
  | true =>
    obtain ⟨h1, h2, h3⟩ := okV_len hv
    rw [if_pos rfl]
    by_cases ho : 0 ≤ o ∧ o ≤ 59
    case neg =>
      rw [addR_bad (fun h => ho h.2.1)]
      simp only [slotmeshref26_Add.j0, if_true]
      by_cases c1 : o < 0
      · rw [if_pos c1]
      · rw [if_neg c1, if_pos (by omega)]
    rw [if_neg (by omega), if_neg (by omega)]
    by_cases hn : 1 ≤ n ∧ n ≤ 1000000000
    case neg =>
      rw [addR_bad (fun h => hn h.2.2)]
      simp only [slotmeshref26_Add.j0, if_true]
      by_cases c1 : n < 1
      · rw [if_pos c1]
      · rw [if_neg c1, decide_eq_true (by omega), if_pos rfl]
    rw [if_neg (by omega), decide_eq_false (by omega), addR_ok ⟨hv, ho, hn⟩]
    simp only [slotmeshref26_Add.j0]
    rw [if_neg (by simp), rhas_cl (by omega) hl hz, hv]
    simp only [Option.bind_some, Bool.true_and]
    by_cases hr : rinB (OfL l o) n = true
    · rw [if_pos hr, if_pos hr]
    · rw [if_neg hr, if_neg hr]
      have := radd_lo l h1 h2 h3 o n ho hn (rinB_no.1 (by simpa using hr)) l.length 0 k (-1) (by omega) (by omega) (by rw [List.drop_zero]; exact h3) (by omega) (by omega) (by rw [List.drop_zero]) (by rw [List.drop_zero]; rfl)
      rw [List.take_zero] at this
      exact this
theorem rmiss_l1 (most : Int) (X : List S47) (hm : most ≤ 1000000) (hX : X.length ≤ 1000000) {i : Nat} (hi : i < X.length) (hlo : X[i].f0 ≤ 1000000000) (hhi : 0 ≤ X[i].f1 ∧ X[i].f1 ≤ 1000000000) (R : List Int → Option (List Int)) (B : Nat)
    (hR : ∀ k out, B ≤ k → (out.length : Int) ≤ max most 0 → slotmeshref26_Missing.l0 k most out X (X[i].f1 + 1) ((i + 1 : Nat) : Int) = R out) : ∀ (d k : Nat) (next : Int) (out : List Int), d = most.toNat - out.length → B + d < k → 0 ≤ next → (out.length : Int) ≤ max most 0 →
    slotmeshref26_Missing.l1 k most out X next (i : Int) = R (fillM d next X[i].f0 out most)
  | 0, k, next, out, hd, hk, hn, ho => by
    obtain ⟨k, rfl⟩ := pos_k hk
    simp only [slotmeshref26_Missing.l1, fillM]
    rw [if_pos (by omega), if_pos (by omega), rd47 hi, up (by omega), w64 (x := X[i].f1 + 1) (by omega) (by omega), if_neg (show ¬ (out.length : Int) < most by omega)]
    simp only [ite_self]
    exact hR k out (by omega) ho
  | d + 1, k, next, out, hd, hk, hn, ho => by
    obtain ⟨k, rfl⟩ := pos_k hk
    simp only [slotmeshref26_Missing.l1, fillM]
    rw [if_pos (by omega), if_pos (by omega), rd47 hi, up (by omega), w64 (x := X[i].f1 + 1) (by omega) (by omega)]
    by_cases hc : next < X[i].f0
    · rw [if_pos hc]
      by_cases hl : (out.length : Int) < most
      · rw [if_pos hl, if_pos (by omega), if_pos ⟨hc, hl⟩, w64 (by omega) (by omega)]
        exact rmiss_l1 most X hm hX hi hlo hhi R B hR d k (next + 1) (out ++ [next]) (by simp; omega) (by omega) (by omega) (by simp; omega)
      · rw [if_neg hl, if_neg (fun hh => hl hh.2)]
        exact hR k out (by omega) ho
    · rw [if_neg hc, if_neg (fun hh => hc hh.1)]
      exact hR k out (by omega) ho
theorem rmiss_l0 (most : Int) (X : List S47) (hm : most ≤ 1000000) (hX : X.length ≤ 1000000) : ∀ (d i k : Nat) (b next : Int) (out : List Int), i + d = X.length → WR b (X.drop i) → -1 ≤ b → d * (most.toNat + 2) < k → 0 ≤ next → (out.length : Int) ≤ max most 0 →
    slotmeshref26_Missing.l0 k most out X next (i : Int) = some (missL (X.drop i) next out most)
  | 0, i, k, b, next, out, hi, hw, hb, hk, hn, ho => by
    obtain ⟨k, rfl⟩ := pos_k hk
    simp only [slotmeshref26_Missing.l0]
    rw [if_neg (by omega), List.drop_eq_nil_of_le (by omega)]
    rfl
  | d + 1, i, k, b, next, out, hi, hw, hb, hk, hn, ho => by
    obtain ⟨k, rfl⟩ := pos_k hk
    have hlt : i < X.length := by omega
    have hd := List.drop_eq_getElem_cons hlt
    rw [hd] at hw
    obtain ⟨h1, h2, h3, h4⟩ := hw
    simp only [slotmeshref26_Missing.l0]
    rw [if_pos (by omega), hd, missL]
    have hexp : (d + 1) * (most.toNat + 2) = d * (most.toNat + 2) + (most.toNat + 2) := by rw [Nat.add_mul, Nat.one_mul]
    exact rmiss_l1 most X hm hX hlt (by omega) ⟨by omega, by omega⟩ (fun out => some (missL (X.drop (i + 1)) (X[i].f1 + 1) out most)) (d * (most.toNat + 2) + 1)
      (fun k out hk ho => rmiss_l0 most X hm hX d (i + 1) k X[i].f1 (X[i].f1 + 1) out (by omega) h4 (by omega) (by omega) (by omega) ho) (most.toNat - out.length) k next out rfl (by omega) hn ho
theorem rmissing_cl {l : List S45} {o most : Int} {k : Nat} (hk : totL l + 4 * l.length + 1 + 64 * (most.toNat + 2) < k) (hl : l.length ≤ 1000000000) (hz : totL l ≤ 1000000000) (hm : most ≤ 1000000) : slotmeshref26_Missing.f k l o most = some (missR l o most) := by
  unfold slotmeshref26_Missing.f missR
  rw [rvalid_cl (by omega) hl hz]
  simp only [Option.bind_some]
  cases hv : okV l with
  | false => simp
  | true =>
    obtain ⟨h1, h2, h3⟩ := okV_len hv
    have hlo := WR_len o h3
    rw [if_pos rfl, if_pos rfl, of_cl (by omega) hl]
    simp only [Option.bind_some]
    have hkk : (OfL l o).length * (most.toNat + 2) ≤ 64 * (most.toNat + 2) := Nat.mul_le_mul_right _ (by omega)
    have := rmiss_l0 most (OfL l o) hm (by omega) (OfL l o).length 0 k (-1) 1 [] (by omega) (by rw [List.drop_zero]; exact OfL_WR o h3) (by omega) (by omega) (by omega) (by simp only [List.length_nil]; omega)
    rw [List.drop_zero] at this
    exact this
end Go.Proofs.Ytjibgfihfbdcaaa.Pl
