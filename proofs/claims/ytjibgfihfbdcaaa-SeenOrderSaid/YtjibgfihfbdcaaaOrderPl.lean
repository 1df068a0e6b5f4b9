/- Plain laws of numbers that are added one behind the other; a kind for arrays of two bytes. -/
import Derived.Test.YtjibgfihfbdcaaaSeenHead
namespace Go.Proofs.Ytjibgfihfbdcaaa.Pl
open Go.RowKit Go.Proofs.Ytjibgfihfbdcaaa.PSeen Go.Proofs.YtjibgfihfbdcaaaW.PrintWords
set_option linter.unusedVariables false
set_option linter.unusedSimpArgs false
def ordL (L : List (Int × Int)) : List S45 := L.foldl (fun m x => addL m (x.1 % 8) (1 + x.2 % 64)) []
theorem ordL_snoc (L : List (Int × Int)) (x : Int × Int) : ordL (L ++ [x]) = addL (ordL L) (x.1 % 8) (1 + x.2 % 64) := by simp [ordL]
theorem addL_tot_le {l : List S45} {o n : Int} (h : WS (-1) l) (ho : 0 ≤ o ∧ o ≤ 59) (hn : 1 ≤ n ∧ n ≤ 1000000000) : totL (addL l o n) ≤ totL l + 1 := by
  by_cases hr : Rin (OfL l o) n
  · rw [addL_same h ho hn hr]
    omega
  · have := addL_tot h ho hn hr
    have g : ∀ b, 0 ≤ one b := fun b => by unfold one; split <;> omega
    have := g (rinB (OfL l o) (n - 1))
    have := g (rinB (OfL l o) (n + 1))
    omega
theorem ord_take (L : List (Int × Int)) : ∀ (i : Nat), i ≤ L.length → WS (-1) (ordL (L.take i)) ∧ totL (ordL (L.take i)) ≤ i
  | 0, _ => by
    rw [List.take_zero]
    exact ⟨trivial, by simp [ordL, totL]⟩
  | i + 1, h => by
    obtain ⟨h1, h2⟩ := ord_take L i (by omega)
    have hlt : i < L.length := by omega
    rw [List.take_succ_eq_append_getElem hlt, ordL_snoc]
    exact ⟨addL_WS h1 (by omega) (by omega), by have := addL_tot_le h1 (o := L[i].1 % 8) (n := 1 + L[i].2 % 64) (by omega) (by omega); omega⟩
theorem ord_spec : ∀ (L : List (Int × Int)) (l : List S45), WS (-1) l → WS (-1) (L.foldl (fun m x => addL m (x.1 % 8) (1 + x.2 % 64)) l) ∧ ∀ p q, Rin (OfL (L.foldl (fun m x => addL m (x.1 % 8) (1 + x.2 % 64)) l) p) q ↔ (∃ x ∈ L, x.1 % 8 = p ∧ 1 + x.2 % 64 = q) ∨ Rin (OfL l p) q
  | [], l, h => ⟨h, fun p q => by simp⟩
  | y :: ys, l, h => by
    obtain ⟨k1, k2⟩ := ord_spec ys (addL l (y.1 % 8) (1 + y.2 % 64)) (addL_WS h (by omega) (by omega))
    refine ⟨k1, fun p q => ?_⟩
    rw [List.foldl_cons, k2 p q, addL_in h (by omega) (by omega) p q]
    constructor
    · rintro (⟨x, hx, h1⟩ | ⟨h1, h2⟩ | h1)
      · exact .inl ⟨x, by simp [hx], h1⟩
      · exact .inl ⟨y, by simp, h1.symm, h2.symm⟩
      · exact .inr h1
    · rintro (⟨x, hx, h1⟩ | h1)
      · rcases List.mem_cons.1 hx with rfl | hx
        · exact .inr (.inl ⟨h1.1.symm, h1.2.symm⟩)
        · exact .inl ⟨x, hx, h1⟩
      · exact .inr (.inr h1)
/-- In whatever order, and some of them twice. -/
theorem ord_same {L M : List (Int × Int)} (h : ∀ x, x ∈ L ↔ x ∈ M) : ordL L = ordL M := by
  obtain ⟨a1, a2⟩ := ord_spec L [] trivial
  obtain ⟨b1, b2⟩ := ord_spec M [] trivial
  refine uniqS _ _ (-1) a1 b1 (fun o n => ?_)
  show Rin (OfL (L.foldl _ []) o) n ↔ Rin (OfL (M.foldl _ []) o) n
  rw [a2, b2]
  constructor
  · rintro (⟨x, hx, h1⟩ | h1)
    · exact .inl ⟨x, (h x).1 hx, h1⟩
    · exact .inr h1
  · rintro (⟨x, hx, h1⟩ | h1)
    · exact .inl ⟨x, (h x).2 hx, h1⟩
    · exact .inr h1
theorem ord_add {L : List (Int × Int)} {i : Nat} (hi : i < L.length) (hl : L.length ≤ 64) : okV (ordL (L.take i)) = true ∧ okV (ordL (L.take (i + 1))) = true ∧ ∃ fr, addR (ordL (L.take i)) (L[i].1 % 8) (1 + L[i].2 % 64) = (ordL (L.take (i + 1)), fr, 0) := by
  obtain ⟨h1, h2⟩ := ord_take L i (by omega)
  obtain ⟨h3, h4⟩ := ord_take L (i + 1) (by omega)
  have v1 := okV_iff.2 ⟨by omega, h1⟩
  refine ⟨v1, okV_iff.2 ⟨by omega, h3⟩, ?_⟩
  rw [List.take_succ_eq_append_getElem hi, ordL_snoc] at h3 h4 ⊢
  rw [addR_ok ⟨v1, by omega, by omega⟩]
  cases hr : rinB (OfL (ordL (L.take i)) (L[i].1 % 8)) (1 + L[i].2 % 64) with
  | true => exact ⟨false, by rw [if_pos rfl, addL_same h1 (by omega) (by omega) (rinB_iff.1 hr)]⟩
  | false => exact ⟨true, by rw [if_neg (by simp), if_neg (by omega)]⟩
theorem ordL_all (L : List (Int × Int)) (hl : L.length ≤ 64) : totL (ordL L) ≤ 64 ∧ (ordL L).length ≤ 64 := by
  obtain ⟨h1, h2⟩ := ord_take L L.length (by omega)
  rw [List.take_length] at h1 h2
  have := WS_len h1
  omega
end Go.Proofs.Ytjibgfihfbdcaaa.Pl
namespace Go.Proofs.Ytjibgfihfbdcaaa.PSeen
open Go.RowKit Go.Proofs.YtjibgfihfbdcaaaW.PrintWords
theorem info36 : (Try.prog.info? 36).map (fun i => (i.zero, i.size, i.bytes)) = some (some (.agg #[(.int .u8 0), (.int .u8 0)]), 2, 2) := by kernel_rfl
def k36 : Kd (Int × Int) := Kd.pair (Kd.int .u8) (Kd.int .u8)
theorem k36_heap : Kd.Heap k36 := Kd.heap_pair (Kd.heap_int .u8) (Kd.heap_int .u8)
theorem k36_open {w : World} {x : Int × Int} {cs : List Value} (h : k36.K w x cs) : cs = [.int .u8 x.1, .int .u8 x.2] := by
  obtain ⟨_, _, rfl, rfl, rfl⟩ := h
  rfl
theorem k36_mk (w : World) (x : Int × Int) : k36.K w x [.int .u8 x.1, .int .u8 x.2] := ⟨[.int .u8 x.1], [.int .u8 x.2], rfl, rfl, rfl⟩
theorem k36_mkF (W : World) (ok : Nat → Prop) (x : Int × Int) : Kd.FK k36 W ok x [.int .u8 x.1, .int .u8 x.2] := fun W2 _ => k36_mk W2 x
theorem at_T36 {w : World} {A : Option Addr} {n : Nat} {xs : List (Int × Int)} (h : Kd.C k36 w A n xs) {i : Nat} (h1 : i < n) (h2 : i < xs.length) : ∃ ad, A = some ad ∧ w.cell? (ad.add (i * 2)) = some (.int .u8 xs[i].1) ∧ w.cell? ⟨(ad.add (i * 2)).block, (ad.add (i * 2)).off + 1, none⟩ = some (.int .u8 xs[i].2) := by
  obtain ⟨ad, c, e, _, hK, hc0⟩ := Kd.C_get h (0, 0) (i : Int) (by omega) (by omega)
  have hc : ∀ j u, c[j]? = some u → w.cell? (ad.add (i * 2 + j)) = some u := hc0
  rw [Int.toNat_natCast, List.getD_eq_getElem?_getD, List.getElem?_eq_getElem h2] at hK
  obtain rfl := k36_open hK
  exact ⟨ad, e, hc 0 _ rfl, by rw [← add_field _ _ 1 (by omega)]; exact hc 1 _ rfl⟩
end Go.Proofs.Ytjibgfihfbdcaaa.PSeen
