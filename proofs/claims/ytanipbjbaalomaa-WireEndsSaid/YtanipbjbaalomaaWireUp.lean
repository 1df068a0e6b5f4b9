/- Plain laws of frames: what Pack writes Unpack reads, and back; beginnings and continuations of a frame's bytes. -/
import Derived.Test.YtanipbjbaalomaaWireCl
namespace Go.Proofs.Ytanipbjbaalomaa.Pl
open Go.RowKit
set_option linter.unusedVariables false
set_option linter.unusedSimpArgs false
theorem nx_ok {l : List Int} {lo hi : Int} {s : Int × Int} {n e : Int} (h : nx l lo hi s = (n, e, 0)) : s.2 = 0 ∧ num l s.1 = (n, e, 0) ∧ lo ≤ n ∧ n ≤ hi := by
  unfold nx at h
  split at h
  · rename_i hs
    simp only [Prod.mk.injEq] at h
    obtain ⟨h1, h2, h3⟩ := h
    split at h3
    · simp at h3
    · rename_i hc
      have hr : lo ≤ (num l s.1).1 ∧ (num l s.1).1 ≤ hi := by
        rcases Decidable.em (lo ≤ (num l s.1).1 ∧ (num l s.1).1 ≤ hi) with hh | hh
        · exact hh
        · exact absurd ⟨h3, hh⟩ hc
      rw [h1] at hr
      exact ⟨hs, Prod.ext h1 (Prod.ext h2 h3), hr⟩
  · rename_i hs
    simp only [Prod.mk.injEq] at h
    obtain ⟨_, h2⟩ := h
    rw [h2] at hs
    simp at hs
theorem nx_mk {l : List Int} {lo hi a n e : Int} (h : num l a = (n, e, 0)) (h0 : lo ≤ n) (h1 : n ≤ hi) : nx l lo hi (a, 0) = (n, e, 0) := by
  unfold nx
  rw [if_pos rfl, h]
  simp only
  rw [if_neg (fun hh => hh.2 ⟨h0, h1⟩)]
theorem nx_err {l : List Int} {lo hi a r : Int} (h : r ≠ 0) : nx l lo hi (a, r) = (0, a, r) := by
  unfold nx
  rw [if_neg h]
theorem nx_11 (l : List Int) (lo hi a : Int) : nx l lo hi (a, 11) = (0, a, 11) := nx_err (by decide)
theorem nx_bad {l : List Int} {lo hi a r : Int} (h : num l a = (0, 0, r)) (hr : r ≠ 0) : nx l lo hi (a, 0) = (0, 0, r) := by
  unfold nx
  rw [if_pos rfl, h]
  simp only
  rw [if_neg (fun hh => hr hh.1)]
/-- What a frame's bytes are, number by number. -/
structure Fr (l : List Int) (a0 a1 a2 a3 a4 : Int) (e0 e1 e2 e3 e4 e5 : Int) (b : List Int) : Prop where
  n0 : num l 0 = (a0, e0, 0)
  n1 : num l e0 = (a1, e1, 0)
  n2 : num l e1 = (a2, e2, 0)
  n3 : num l e2 = (a3, e3, 0)
  n4 : num l e3 = (a4, e4, 0)
  n5 : num l e4 = ((b.length : Int), e5, 0)
  ok : okF a0 a1 a2 a3 a4 b = true
  len : e5 + b.length = l.length
  body : (l.drop e5.toNat).take b.length = b
theorem Fr.up {l : List Int} {a0 a1 a2 a3 a4 e0 e1 e2 e3 e4 e5 : Int} {b : List Int} (h : Fr l a0 a1 a2 a3 a4 e0 e1 e2 e3 e4 e5 b) : upk l = (a0, a1, a2, a3, a4, b, 0) := by
  have ho := of_decide_eq_true h.ok
  have h0 : u0 l = (a0, e0, 0) := nx_mk h.n0 (by omega) (by omega)
  have h1 : u1 l = (a1, e1, 0) := by unfold u1; rw [h0]; exact nx_mk h.n1 (by omega) (by omega)
  have h2 : u2 l = (a2, e2, 0) := by unfold u2; rw [h1]; exact nx_mk h.n2 (by omega) (by omega)
  have h3 : u3 l = (a3, e3, 0) := by unfold u3; rw [h2]; exact nx_mk h.n3 (by omega) (by omega)
  have h4 : u4 l = (a4, e4, 0) := by unfold u4; rw [h3]; exact nx_mk h.n4 (by omega) (by omega)
  have hb : byt l e4 = (b, e5 + b.length, 0) := by
    unfold byt
    rw [h.n5]
    simp only [if_true]
    rw [if_neg (by omega), if_neg (by have := h.len; omega), Int.toNat_natCast, h.body]
  unfold upk
  rw [h0, h1, h2, h3, h4]
  simp only [if_true]
  rw [hb]
  simp only [if_true]
  rw [if_neg (by have := h.len; omega)]
theorem num_at (l p t : List Int) (n : Int) (h : inNum n = true) (hl : l = p ++ wn n ++ t) : num l (p.length : Int) = (n, ((p ++ wn n).length : Int), 0) := by
  subst hl
  rw [num_wn p t n h, List.length_append]
  rfl
/-- The bytes that Pack writes. -/
theorem fr_of_pack {a0 a1 a2 a3 a4 : Int} {b : List Int} (h : okF a0 a1 a2 a3 a4 b = true) :
    Fr (hd5 a0 a1 a2 a3 a4 ++ wn b.length ++ b) a0 a1 a2 a3 a4 (wn a0).length ((wn a0 ++ wn a1).length : Nat) ((wn a0 ++ wn a1 ++ wn a2).length : Nat) ((wn a0 ++ wn a1 ++ wn a2 ++ wn a3).length : Nat) ((hd5 a0 a1 a2 a3 a4).length : Nat) ((hd5 a0 a1 a2 a3 a4 ++ wn b.length).length : Nat) b := by
  have ho := of_decide_eq_true h
  have hlb := len_inNum (x := b) (by omega)
  refine ⟨?_, ?_, ?_, ?_, ?_, ?_, h, by simp only [List.length_append]; omega, ?_⟩
  · have := num_at (hd5 a0 a1 a2 a3 a4 ++ wn b.length ++ b) [] (wn a1 ++ wn a2 ++ wn a3 ++ wn a4 ++ wn b.length ++ b) a0 (by rw [inNum_iff]; omega) (by simp [hd5])
    simpa using this
  · exact num_at _ (wn a0) (wn a2 ++ wn a3 ++ wn a4 ++ wn b.length ++ b) a1 (by rw [inNum_iff]; omega) (by simp [hd5])
  · exact num_at _ (wn a0 ++ wn a1) (wn a3 ++ wn a4 ++ wn b.length ++ b) a2 (by rw [inNum_iff]; omega) (by simp [hd5])
  · exact num_at _ (wn a0 ++ wn a1 ++ wn a2) (wn a4 ++ wn b.length ++ b) a3 (by rw [inNum_iff]; omega) (by simp [hd5])
  · exact num_at _ (wn a0 ++ wn a1 ++ wn a2 ++ wn a3) (wn b.length ++ b) a4 (by rw [inNum_iff]; omega) (by simp [hd5])
  · exact num_at _ (hd5 a0 a1 a2 a3 a4) b _ hlb rfl
  · rw [Int.toNat_natCast, List.drop_left, List.take_length]
theorem upk_pck {a0 a1 a2 a3 a4 : Int} {b : List Int} (h : okF a0 a1 a2 a3 a4 b = true) : upk (hd5 a0 a1 a2 a3 a4 ++ wn b.length ++ b) = (a0, a1, a2, a3, a4, b, 0) := (fr_of_pack h).up
theorem fr_of_unpack {l b : List Int} {a0 a1 a2 a3 a4 : Int} (hB : isB l = true) (h : upk l = (a0, a1, a2, a3, a4, b, 0)) : ∃ e0 e1 e2 e3 e4 e5, Fr l a0 a1 a2 a3 a4 e0 e1 e2 e3 e4 e5 b := by
  unfold upk at h
  by_cases h4 : (u4 l).2.2 = 0
  case neg =>
    rw [if_neg h4] at h
    simp only [Prod.mk.injEq] at h
    exact absurd h.2.2.2.2.2.2 h4
  rw [if_pos h4] at h
  by_cases h5 : (byt l (u4 l).2.1).2.2 = 0
  case neg =>
    rw [if_neg h5] at h
    simp only [Prod.mk.injEq] at h
    exact absurd h.2.2.2.2.2.2 h5
  rw [if_pos h5] at h
  by_cases h6 : (byt l (u4 l).2.1).2.1 < (l.length : Int)
  case pos =>
    rw [if_pos h6] at h
    simp at h
  rw [if_neg h6] at h
  simp only [Prod.mk.injEq, and_true] at h
  obtain ⟨g0, g1, g2, g3, g4, g5⟩ := h
  obtain ⟨x4, e4, r4, hu4⟩ : ∃ x e r, u4 l = (x, e, r) := ⟨_, _, _, rfl⟩
  rw [hu4] at h4 h5 h6 g4 g5
  simp only at h4 h5 h6 g4 g5
  subst h4 g4
  obtain ⟨t3, m4, b4⟩ := nx_ok hu4
  obtain ⟨x3, e3, r3, hu3⟩ : ∃ x e r, u3 l = (x, e, r) := ⟨_, _, _, rfl⟩
  rw [hu3] at t3 m4 g3
  simp only at t3 m4 g3
  subst t3 g3
  obtain ⟨t2, m3, b3⟩ := nx_ok hu3
  obtain ⟨x2, e2, r2, hu2⟩ : ∃ x e r, u2 l = (x, e, r) := ⟨_, _, _, rfl⟩
  rw [hu2] at t2 m3 g2
  simp only at t2 m3 g2
  subst t2 g2
  obtain ⟨t1, m2, b2⟩ := nx_ok hu2
  obtain ⟨x1, e1, r1, hu1⟩ : ∃ x e r, u1 l = (x, e, r) := ⟨_, _, _, rfl⟩
  rw [hu1] at t1 m2 g1
  simp only at t1 m2 g1
  subst t1 g1
  obtain ⟨t0, m1, b1⟩ := nx_ok hu1
  obtain ⟨x0, e0, r0, hu0⟩ : ∃ x e r, u0 l = (x, e, r) := ⟨_, _, _, rfl⟩
  rw [hu0] at t0 m1 g0
  simp only at t0 m1 g0
  subst t0 g0
  obtain ⟨_, m0, b0⟩ := nx_ok hu0
  unfold byt at h5 h6 g5
  obtain ⟨n, e, r, hn⟩ : ∃ n e r, num l e4 = (n, e, r) := ⟨_, _, _, rfl⟩
  rw [hn] at h5 h6 g5
  simp only at h5 h6 g5
  by_cases hr : r = 0
  case neg =>
    rw [if_neg hr] at h5
    exact absurd h5 hr
  subst hr
  rw [if_pos rfl] at h5 h6 g5
  by_cases hn4 : n < 0 ∨ 4000 < n
  · rw [if_pos hn4] at h5; simp at h5
  rw [if_neg hn4] at h5 h6 g5
  by_cases hs : (l.length : Int) - e < n
  · rw [if_pos hs] at h5; simp at h5
  rw [if_neg hs] at h5 h6 g5
  simp only at h6 g5
  obtain ⟨q1, q2, q3, q4, q5, q6⟩ := num_ok hB hn
  have hw := (wn_len q3).1
  have hbl : b.length = n.toNat := by
    rw [← g5, List.length_take, List.length_drop]
    omega
  have hnb : n = (b.length : Int) := by omega
  refine ⟨e0, e1, e2, e3, e4, e, m0, m1, m2, m3, m4, by rw [hn, hnb], ?_, by omega, ?_⟩
  · exact decide_eq_true ⟨b0.1, b0.2, b1.1, b1.2, b2.1, b2.2, b3.1, b3.2, b4.1, b4.2, by omega⟩
  · rw [hbl]; exact g5
theorem split_at {l : List Int} {a n e : Int} (hB : isB l = true) (h : num l a = (n, e, 0)) : l.drop a.toNat = wn n ++ l.drop e.toNat ∧ 0 ≤ a ∧ a < e ∧ e ≤ l.length := by
  obtain ⟨q1, q2, q3, q4, q5, q6⟩ := num_ok hB h
  have hw := (wn_len q3).1
  refine ⟨?_, q1, by omega, q5⟩
  have := List.take_append_drop (wn n).length (l.drop a.toNat)
  rw [q6, List.drop_drop] at this
  rw [show e.toNat = a.toNat + (wn n).length by omega, this]
theorem Fr.bytes {l : List Int} {a0 a1 a2 a3 a4 e0 e1 e2 e3 e4 e5 : Int} {b : List Int} (hB : isB l = true) (h : Fr l a0 a1 a2 a3 a4 e0 e1 e2 e3 e4 e5 b) : hd5 a0 a1 a2 a3 a4 ++ wn b.length ++ b = l := by
  obtain ⟨s0, p0⟩ := split_at hB h.n0
  obtain ⟨s1, p1⟩ := split_at hB h.n1
  obtain ⟨s2, p2⟩ := split_at hB h.n2
  obtain ⟨s3, p3⟩ := split_at hB h.n3
  obtain ⟨s4, p4⟩ := split_at hB h.n4
  obtain ⟨s5, p5⟩ := split_at hB h.n5
  have hb : l.drop e5.toNat = b := by
    have := h.body
    rw [List.take_of_length_le (by rw [List.length_drop]; have := h.len; omega)] at this
    exact this
  have hl : l = l.drop (0 : Int).toNat := by simp
  rw [hl, s0, s1, s2, s3, s4, s5, hb]
  simp [hd5]
theorem pck_upk {l b : List Int} {a0 a1 a2 a3 a4 : Int} (hB : isB l = true) (h : upk l = (a0, a1, a2, a3, a4, b, 0)) : pck a0 a1 a2 a3 a4 b = (l, 0) ∧ okF a0 a1 a2 a3 a4 b = true := by
  obtain ⟨e0, e1, e2, e3, e4, e5, hf⟩ := fr_of_unpack hB h
  unfold pck
  rw [if_pos hf.ok, hf.bytes hB]
  exact ⟨rfl, hf.ok⟩
/-- A continuation: the numbers are as they were, and bytes are left. -/
theorem Fr.more {l : List Int} {a0 a1 a2 a3 a4 e0 e1 e2 e3 e4 e5 : Int} {b : List Int} (hB : isB l = true) (h : Fr l a0 a1 a2 a3 a4 e0 e1 e2 e3 e4 e5 b) (t : List Int) (ht : t ≠ []) : upk (l ++ t) = (0, 0, 0, 0, 0, [], 11) := by
  have ho := of_decide_eq_true h.ok
  have K : ∀ {a n e : Int}, num l a = (n, e, 0) → num (l ++ t) a = (n, e, 0) := by
    intro a n e hn
    have := num_keep (m := l.length) hn (by obtain ⟨_, _, _, _, q5, _⟩ := num_ok hB hn; omega) t
    rwa [List.take_length] at this
  have h0 : u0 (l ++ t) = (a0, e0, 0) := nx_mk (K h.n0) (by omega) (by omega)
  have h1 : u1 (l ++ t) = (a1, e1, 0) := by unfold u1; rw [h0]; exact nx_mk (K h.n1) (by omega) (by omega)
  have h2 : u2 (l ++ t) = (a2, e2, 0) := by unfold u2; rw [h1]; exact nx_mk (K h.n2) (by omega) (by omega)
  have h3 : u3 (l ++ t) = (a3, e3, 0) := by unfold u3; rw [h2]; exact nx_mk (K h.n3) (by omega) (by omega)
  have h4 : u4 (l ++ t) = (a4, e4, 0) := by unfold u4; rw [h3]; exact nx_mk (K h.n4) (by omega) (by omega)
  have hl := h.len
  have htl : 0 < t.length := List.length_pos_iff.2 ht
  have hb : (byt (l ++ t) e4).2 = (e5 + b.length, 0) := by
    unfold byt
    rw [K h.n5]
    simp only [if_true]
    rw [if_neg (by omega), if_neg (by rw [List.length_append]; omega)]
  unfold upk
  rw [h4]
  simp only [if_true]
  rw [hb]
  simp only [if_true]
  rw [if_pos (by rw [List.length_append]; omega)]
/-- A proper beginning. -/
theorem Fr.cut {l : List Int} {a0 a1 a2 a3 a4 e0 e1 e2 e3 e4 e5 : Int} {b : List Int} (hB : isB l = true) (h : Fr l a0 a1 a2 a3 a4 e0 e1 e2 e3 e4 e5 b) (m : Nat) (hm : m < l.length) : upk (l.take m) = (0, 0, 0, 0, 0, [], 11) := by
  have ho := of_decide_eq_true h.ok
  have K : ∀ {a n e : Int}, num l a = (n, e, 0) → e ≤ m → num (l.take m) a = (n, e, 0) := by
    intro a n e hn he
    have := num_keep hn he []
    rwa [List.append_nil] at this
  have C : ∀ {a n e : Int}, num l a = (n, e, 0) → m < e → a ≤ m → num (l.take m) a = (0, 0, 11) := fun hn he ha => num_cut hn he ha (by omega)
  obtain ⟨_, p0⟩ := split_at hB h.n0
  obtain ⟨_, p1⟩ := split_at hB h.n1
  obtain ⟨_, p2⟩ := split_at hB h.n2
  obtain ⟨_, p3⟩ := split_at hB h.n3
  obtain ⟨_, p4⟩ := split_at hB h.n4
  obtain ⟨_, p5⟩ := split_at hB h.n5
  have fin : (u4 (l.take m)).2.2 = 11 → upk (l.take m) = (0, 0, 0, 0, 0, [], 11) := by
    intro h4
    unfold upk
    rw [h4, if_neg (by decide)]
  by_cases c0 : m < e0
  · apply fin
    have h0 : u0 (l.take m) = (0, 0, 11) := nx_bad (C h.n0 c0 (by omega)) (by decide)
    unfold u4 u3 u2 u1
    simp only [h0, nx_11]
  have h0 : u0 (l.take m) = (a0, e0, 0) := nx_mk (K h.n0 (by omega)) (by omega) (by omega)
  by_cases c1 : m < e1
  · apply fin
    have h1 : u1 (l.take m) = (0, 0, 11) := by unfold u1; rw [h0]; exact nx_bad (C h.n1 c1 (by omega)) (by decide)
    unfold u4 u3 u2
    simp only [h1, nx_11]
  have h1 : u1 (l.take m) = (a1, e1, 0) := by unfold u1; rw [h0]; exact nx_mk (K h.n1 (by omega)) (by omega) (by omega)
  by_cases c2 : m < e2
  · apply fin
    have h2 : u2 (l.take m) = (0, 0, 11) := by unfold u2; rw [h1]; exact nx_bad (C h.n2 c2 (by omega)) (by decide)
    unfold u4 u3
    simp only [h2, nx_11]
  have h2 : u2 (l.take m) = (a2, e2, 0) := by unfold u2; rw [h1]; exact nx_mk (K h.n2 (by omega)) (by omega) (by omega)
  by_cases c3 : m < e3
  · apply fin
    have h3 : u3 (l.take m) = (0, 0, 11) := by unfold u3; rw [h2]; exact nx_bad (C h.n3 c3 (by omega)) (by decide)
    unfold u4
    simp only [h3, nx_11]
  have h3 : u3 (l.take m) = (a3, e3, 0) := by unfold u3; rw [h2]; exact nx_mk (K h.n3 (by omega)) (by omega) (by omega)
  by_cases c4 : m < e4
  · apply fin
    have h4 : u4 (l.take m) = (0, 0, 11) := by unfold u4; rw [h3]; exact nx_bad (C h.n4 c4 (by omega)) (by decide)
    rw [h4]
  have h4 : u4 (l.take m) = (a4, e4, 0) := by unfold u4; rw [h3]; exact nx_mk (K h.n4 (by omega)) (by omega) (by omega)
  have hl := h.len
  have hb : byt (l.take m) e4 = ([], 0, 11) := by
    unfold byt
    by_cases c5 : m < e5
    · rw [C h.n5 c5 (by omega)]
      simp
    · rw [K h.n5 (by omega)]
      simp only [if_true]
      rw [if_neg (by omega), if_pos (by rw [List.length_take]; omega)]
  unfold upk
  rw [h4]
  simp only [if_true]
  rw [hb]
  simp
end Go.Proofs.Ytanipbjbaalomaa.Pl
namespace Go.Proofs.Ytanipbjbaalomaa.Pl
open Go.RowKit
theorem isB_wf {l : List Int} (h : ∀ x ∈ l, (Lit.int .u8 x).wf = true) : isB l = true := by
  unfold isB
  rw [List.all_eq_true]
  intro x hx
  have := h x hx
  simp [Lit.wf, IntKind.min, IntKind.max, IntKind.signed, IntKind.bits] at this
  simp
  omega
theorem isB_pck {a0 a1 a2 a3 a4 : Int} {b : List Int} (hb : isB b = true) : isB (hd5 a0 a1 a2 a3 a4 ++ wn b.length ++ b) = true := by
  simp only [hd5, isB_append, wn_isB, hb, Bool.and_true]
theorem pck_len {a0 a1 a2 a3 a4 : Int} {b : List Int} (h : okF a0 a1 a2 a3 a4 b = true) : (hd5 a0 a1 a2 a3 a4 ++ wn b.length ++ b).length ≤ 4100 ∧ 6 ≤ (hd5 a0 a1 a2 a3 a4 ++ wn b.length ++ b).length := by
  have ho := of_decide_eq_true h
  have h1 := hd5_len h
  have h2 := wn_len (len_inNum (x := b) (by omega))
  simp only [List.length_append]
  omega
end Go.Proofs.Ytanipbjbaalomaa.Pl
