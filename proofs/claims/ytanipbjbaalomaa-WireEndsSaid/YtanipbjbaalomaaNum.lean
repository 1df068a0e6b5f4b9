/- Plain functions of this claim's numbers on the wire: what is read at an offset, what is written (no program in sight). -/
import Derived.IntWalk
import Derived.Laws.BitsLemmas
import Derived.RowKit
namespace Go.Proofs.Ytanipbjbaalomaa.Pl
open Go.RowKit
set_option linter.unusedVariables false
set_option linter.unusedSimpArgs false
/-- Whole numbers that are bytes. -/
def isB (l : List Int) : Bool := l.all fun x => decide (0 ≤ x) && decide (x < 256)
def zig (n : Int) : Int := if n < 0 then -2 * n - 1 else 2 * n
def unzig (u : Int) : Int := if u % 2 = 1 then -(u + 1) / 2 else u / 2
def inNum (n : Int) : Bool := decide (-10000000000000 ≤ n) && decide (n ≤ 10000000000000)
def numGo (a : Int) : Int → Nat → List Int → Int × Int × Int
  | _, _, [] => (0, 0, 11)
  | u, i, c :: cs =>
    if 128 ≤ c then (if i = 6 then (0, 0, 3) else numGo a (u + (c - 128) * 128 ^ i) (i + 1) cs)
    else if inNum (unzig (u + c * 128 ^ i)) && (decide (0 < c) || decide (i = 0)) then (unzig (u + c * 128 ^ i), a + i + 1, 0) else (0, 0, 3)
def num (l : List Int) (a : Int) : Int × Int × Int :=
  if a < 0 then (0, 0, 1) else if (l.length : Int) < a then (0, 0, 1) else numGo a 0 0 (l.drop a.toNat)
theorem isB_at {l : List Int} (h : isB l = true) (i : Nat) : 0 ≤ l.getD i 0 ∧ l.getD i 0 < 256 := by
  unfold isB at h
  rw [List.all_eq_true] at h
  rw [List.getD_eq_getElem?_getD]
  rcases Nat.lt_or_ge i l.length with hi | hi
  · rw [List.getElem?_eq_getElem hi]
    have := h _ (List.getElem_mem hi)
    simp at this
    exact this
  · rw [List.getElem?_eq_none hi]
    decide
theorem pow128_pos (i : Nat) : (0 : Int) < 128 ^ i := Int.pow_pos (by decide)
theorem wraps_i64 (n : Int) (h₀ : 0 ≤ n) (h₁ : n < 2 ^ 63) : IntKind.i64.wrap n = n := by rw [IntKind.wrap_i64]; omega
theorem join_i64 (i : Nat) (x y : Int) (hx₀ : 0 ≤ x) (hx : x % 2 ^ i = 0) (hx₁ : x < 2 ^ 63) (hy₀ : 0 ≤ y) (hy : y < 2 ^ i) (hy₁ : y < 2 ^ 63) : bits .or .i64 y x = y + x := by
  have hc : bits .or .i64 y x = bits .or .i64 x y := by simp only [bits, BitVec.or_comm]
  rw [hc, bits_join .i64 63 (by decide) wraps_i64 i x y hx₀ hx hx₁ hy₀ hy hy₁]
  omega
theorem shl_or (u x : Int) (k : Nat) (hk : k ≤ 6) (hu0 : 0 ≤ u) (hu : u < 128 ^ k) (hx0 : 0 ≤ x) (hx : x < 128) :
    bits .or .i64 u (wrap64 (x * 2 ^ (7 * k))) = u + x * 128 ^ k ∧ 0 ≤ u + x * 128 ^ k ∧ u + x * 128 ^ k < 128 ^ (k + 1) := by
  have h : k = 0 ∨ k = 1 ∨ k = 2 ∨ k = 3 ∨ k = 4 ∨ k = 5 ∨ k = 6 := by omega
  rcases h with rfl | rfl | rfl | rfl | rfl | rfl | rfl <;> simp only [Nat.mul_zero, Nat.mul_one, Nat.reduceMul, Nat.reduceAdd, Int.reducePow, Int.mul_one] at * <;>
    refine ⟨?_, by omega, by omega⟩ <;> (unfold wrap64; rw [Int.emod_eq_of_lt (by omega) (by omega)])
  · rw [join_i64 0 _ _ (by omega) (by omega) (by omega) (by omega) (by omega) (by omega)]; omega
  · rw [join_i64 7 _ _ (by omega) (by omega) (by omega) (by omega) (by omega) (by omega)]; omega
  · rw [join_i64 14 _ _ (by omega) (by omega) (by omega) (by omega) (by omega) (by omega)]; omega
  · rw [join_i64 21 _ _ (by omega) (by omega) (by omega) (by omega) (by omega) (by omega)]; omega
  · rw [join_i64 28 _ _ (by omega) (by omega) (by omega) (by omega) (by omega) (by omega)]; omega
  · rw [join_i64 35 _ _ (by omega) (by omega) (by omega) (by omega) (by omega) (by omega)]; omega
  · rw [join_i64 42 _ _ (by omega) (by omega) (by omega) (by omega) (by omega) (by omega)]; omega
theorem pow128_le (k : Nat) (hk : k ≤ 6) : (128 : Int) ^ (k + 1) ≤ 562949953421312 := by
  have h : k = 0 ∨ k = 1 ∨ k = 2 ∨ k = 3 ∨ k = 4 ∨ k = 5 ∨ k = 6 := by omega
  rcases h with rfl | rfl | rfl | rfl | rfl | rfl | rfl <;> decide
theorem par_of {u : Int} (h : (u % 2 == 1) = true) : u % 2 = 1 := beq_iff_eq.1 h
theorem tdiv_odd (q : Int) (h0 : -1 < 2 * q + 1) (h1 : q ≤ 281474976710656) : wrap64 (-((2 * q + 1 + 1).tdiv 2)) = -(2 * q + 1 + 1) / 2 := by
  have e : 2 * q + 1 + 1 = 2 * (q + 1) := by omega
  have e2 : -(2 * q + 1 + 1) = 2 * (-(q + 1)) := by omega
  rw [e2, e, Int.mul_tdiv_cancel_left _ (by decide), Int.mul_ediv_cancel_left _ (by decide)]
  unfold wrap64
  omega
/-- One number of a frame is read, its range asked; s: the offset and the first error. -/
def nx (l : List Int) (lo hi : Int) (s : Int × Int) : Int × Int × Int :=
  if s.2 = 0 then ((num l s.1).1, (num l s.1).2.1, if (num l s.1).2.2 = 0 ∧ ¬ (lo ≤ (num l s.1).1 ∧ (num l s.1).1 ≤ hi) then 3 else (num l s.1).2.2) else (0, s)
def u0 (l : List Int) : Int × Int × Int := nx l 1 4 (0, 0)
def u1 (l : List Int) : Int × Int × Int := nx l 0 59 (u0 l).2
def u2 (l : List Int) : Int × Int × Int := nx l (-1) 59 (u1 l).2
def u3 (l : List Int) : Int × Int × Int := nx l 0 1000000000 (u2 l).2
def u4 (l : List Int) : Int × Int × Int := nx l 0 2000000 (u3 l).2
end Go.Proofs.Ytanipbjbaalomaa.Pl
