-- A text of this claim, written by this session's program.
import Derived.Test.YtanipbjbaalomaaPWirex0
import Derived.Test.YtanipbjbaalomaaPWirex1
namespace Go.Proofs.Ytanipbjbaalomaa.PWire
open Go.RowKit Go.Proofs.YtanipbjbaalomaaW.PrintWords Go.Proofs.YtanipbjbaalomaaW.PrintLast Go.Proofs.YtanipbjbaalomaaW.PrintMore
attribute [local go_sem] max2_int min2_int max_two min_two max_three min_three max_four min_four   -- for this text's walks alone
set_option linter.unusedVariables false
set_option linter.unusedSimpArgs false

/-! ### wire_Pack: function 28 (by hand) -/
set_option maxHeartbeats 8000000 in
set_option maxRecDepth 100000 in
theorem wire_limits.calls (w : World) :
    Calls Try.prog 62 #[] w fun e w' => e = .returned (.agg #[.int .i64 1, .int .i64 4, .int .i64 0, .int .i64 59, .int .i64 (-1), .int .i64 59, .int .i64 0, .int .i64 1000000000, .int .i64 0, .int .i64 2000000]) ∧ Below w.heap.size w w' := by
  have hu97 := Try.underlying97
  have hu96 := Try.underlying96
  go_enter Try.func62, Try.ntmps62
  go_wp2
  exact bodyPost_ret (v := .agg #[.int .i64 1, .int .i64 4, .int .i64 0, .int .i64 59, .int .i64 (-1), .int .i64 59, .int .i64 0, .int .i64 1000000000, .int .i64 0, .int .i64 2000000]) (by simp [results, Try.results62, go_sem]) rfl ⟨rfl, below_alloc (Below.refl _ _) _⟩
def wire_Pack.f (k : Nat) (a0 a1 a2 a3 a4 : Int) (l5 : List Int) : Option (List Int × Int) :=
  if 1 ≤ a0 ∧ a0 ≤ 4 ∧ 0 ≤ a1 ∧ a1 ≤ 59 ∧ -1 ≤ a2 ∧ a2 ≤ 59 ∧ 0 ≤ a3 ∧ a3 ≤ 1000000000 ∧ 0 ≤ a4 ∧ a4 ≤ 2000000 ∧ l5.length ≤ 4000 then
    (wire_numbers.f k [] [a0, a1, a2, a3, a4]).bind fun b => (wire_numbers.f k b [(l5.length : Int)]).bind fun b2 => if b2.length + l5.length < 140737488355328 then some (b2 ++ l5, 0) else none
  else some ([], 1)
theorem wire_Pack.mono : ∀ a0 a1 a2 a3 a4 a5 k, LeO (wire_Pack.f k a0 a1 a2 a3 a4 a5) (wire_Pack.f (k + 1) a0 a1 a2 a3 a4 a5) := by
  intro a0 a1 a2 a3 a4 a5 k
  unfold wire_Pack.f
  repeat' first
      | (with_reducible exact wire_numbers.mono _ _ _)
      | (with_reducible exact LeO.refl _)
      | (with_reducible refine LeO.ite ?_ ?_)
      | (with_reducible refine LeO.bind ?_ (fun _ => ?_))
theorem wire_limits.at0 (W : World) : (Instr.index 97 (.agg #[.int .i64 1, .int .i64 4, .int .i64 0, .int .i64 59, .int .i64 (-1), .int .i64 59, .int .i64 0, .int .i64 1000000000, .int .i64 0, .int .i64 2000000]) (.int .i64 0)).run Try.prog W = .ok (.agg #[.int .i64 1, .int .i64 4]) W := by kernel_rfl
theorem wire_limits.at1 (W : World) : (Instr.index 97 (.agg #[.int .i64 1, .int .i64 4, .int .i64 0, .int .i64 59, .int .i64 (-1), .int .i64 59, .int .i64 0, .int .i64 1000000000, .int .i64 0, .int .i64 2000000]) (.int .i64 1)).run Try.prog W = .ok (.agg #[.int .i64 0, .int .i64 59]) W := by kernel_rfl
theorem wire_limits.at2 (W : World) : (Instr.index 97 (.agg #[.int .i64 1, .int .i64 4, .int .i64 0, .int .i64 59, .int .i64 (-1), .int .i64 59, .int .i64 0, .int .i64 1000000000, .int .i64 0, .int .i64 2000000]) (.int .i64 2)).run Try.prog W = .ok (.agg #[.int .i64 (-1), .int .i64 59]) W := by kernel_rfl
theorem wire_limits.at3 (W : World) : (Instr.index 97 (.agg #[.int .i64 1, .int .i64 4, .int .i64 0, .int .i64 59, .int .i64 (-1), .int .i64 59, .int .i64 0, .int .i64 1000000000, .int .i64 0, .int .i64 2000000]) (.int .i64 3)).run Try.prog W = .ok (.agg #[.int .i64 0, .int .i64 1000000000]) W := by kernel_rfl
theorem wire_limits.at4 (W : World) : (Instr.index 97 (.agg #[.int .i64 1, .int .i64 4, .int .i64 0, .int .i64 59, .int .i64 (-1), .int .i64 59, .int .i64 0, .int .i64 1000000000, .int .i64 0, .int .i64 2000000]) (.int .i64 4)).run Try.prog W = .ok (.agg #[.int .i64 0, .int .i64 2000000]) W := by kernel_rfl
/-- What the memory holds while Pack's loop runs. -/
def PackW (a0 a1 a2 a3 a4 : Int) (A : Option Addr) (c : Nat) (l : List Int) (w wr : World) : Prop :=
  wr.cell? ⟨w.heap.size + 1, 0, none⟩ = some (.int .i64 a0) ∧ wr.cell? ⟨w.heap.size + 1, 1, none⟩ = some (.int .i64 a1) ∧ wr.cell? ⟨w.heap.size + 1, 2, none⟩ = some (.int .i64 a2) ∧
  wr.cell? ⟨w.heap.size + 1, 3, none⟩ = some (.int .i64 a3) ∧ wr.cell? ⟨w.heap.size + 1, 4, none⟩ = some (.int .i64 a4) ∧ wr.cell? ⟨w.heap.size, 5, none⟩ = some (.slice A l.length c) ∧
  w.heap.size + 1 < wr.heap.size ∧ Below w.heap.size w wr
theorem PackW.below {a0 a1 a2 a3 a4 : Int} {A : Option Addr} {c : Nat} {l : List Int} {w wr W : World} (h : PackW a0 a1 a2 a3 a4 A c l w wr) (hb : Below wr.heap.size wr W) : PackW a0 a1 a2 a3 a4 A c l w W := by
  obtain ⟨p0, p1, p2, p3, p4, p5, psz, pb⟩ := h
  exact ⟨(hb.cell psz).trans p0, (hb.cell psz).trans p1, (hb.cell psz).trans p2, (hb.cell psz).trans p3, (hb.cell psz).trans p4, (hb.cell (show w.heap.size < _ by omega)).trans p5, by have := hb.size; omega, below_then pb (by omega) hb⟩
theorem bcell {W w1 : World} (hb : Below W.heap.size W w1) : (∀ b o, b < W.heap.size → w1.cell? ⟨b, o, none⟩ = W.cell? ⟨b, o, none⟩) ∧ (∀ b o, b < W.heap.size → w1.frozen? ⟨b, o, none⟩ = W.frozen? ⟨b, o, none⟩) :=
  ⟨fun b o h => hb.cell (p := ⟨b, o, none⟩) h, fun b o h => hb.frozen (p := ⟨b, o, none⟩) h⟩
/-- The first i numbers are in their ranges. -/
def PackOk (i a0 a1 a2 a3 a4 : Int) : Prop :=
  (0 < i → 1 ≤ a0 ∧ a0 ≤ 4) ∧ (1 < i → 0 ≤ a1 ∧ a1 ≤ 59) ∧ (2 < i → -1 ≤ a2 ∧ a2 ≤ 59) ∧ (3 < i → 0 ≤ a3 ∧ a3 ≤ 1000000000) ∧ (4 < i → 0 ≤ a4 ∧ a4 ≤ 2000000)
set_option maxHeartbeats 8000000 in
set_option maxRecDepth 100000 in
theorem wire_Pack.calls (k : Nat) (a0_0 : Int) (a0_1 : Int) (a0_2 : Int) (a0_3 : Int) (a0_4 : Int) (A0_5 : Option Addr) (c0_5 : Nat) (l0_5 : List Int) (r1 : List Int) (r2 : Int) (w : World) (hr0_5 : Kd.C (Kd.int .u8) w A0_5 l0_5.length l0_5) (hc0_5 : l0_5.length ≤ c0_5) (h : wire_Pack.f k a0_0 a0_1 a0_2 a0_3 a0_4 l0_5 = some (r1, r2)) :
    Calls Try.prog 28 #[.agg #[.int .i64 a0_0, .int .i64 a0_1, .int .i64 a0_2, .int .i64 a0_3, .int .i64 a0_4, .slice A0_5 l0_5.length c0_5]] w fun e w' => ∃ v0_ : Value, e = .returned (.tuple #[v0_, .int .i64 r2]) ∧ Kd.R (Kd.int .u8) 5 w' w.heap.size (fun _ => True) v0_ r1 ∧ Below w.heap.size w w' := by
  have hu24 := Try.underlying24
  have hu94 := Try.underlying94
  have hu96 := Try.underlying96
  have hu97 := Try.underlying97
  have HR := Aside0.mk hr0_5
  have HC := Aside0.mk hc0_5
  have HH := Aside0.mk h
  have HB := Aside0.mk (Below.refl w.heap.size w)
  clear hr0_5 hc0_5 h
  go_enter Try.func28, Try.ntmps28
  go_wp2_with (fail)
  refine (wire_limits.calls _).mono ?_
  rintro e w1 ⟨rfl, hb1⟩
  have hsz : w.heap.size + 1 < w1.heap.size := by have := hb1.size; simp at this; omega
  have hP : PackW a0_0 a0_1 a0_2 a0_3 a0_4 A0_5 c0_5 l0_5 w w1 := by
    refine ⟨?_, ?_, ?_, ?_, ?_, ?_, hsz, ?_⟩
    · rw [hb1.cell (by simp)]; simp [go_sem]
    · rw [hb1.cell (by simp)]; simp [go_sem]
    · rw [hb1.cell (by simp)]; simp [go_sem]
    · rw [hb1.cell (by simp)]; simp [go_sem]
    · rw [hb1.cell (by simp)]; simp [go_sem]
    · rw [hb1.cell (by simp; omega)]; simp [go_sem]
    · exact below_then (below_alloc (below_alloc (Below.refl _ _) _) _) (by simp; omega) hb1
  have HP := Aside0.mk hP
  clear hb1 hsz hP
  go_wp2_with (fail)
  go_loopw [20] (fun v20 wr => ∃ i : Int, v20 = .int .i64 i ∧ (i = 0 ∨ i = 1 ∨ i = 2 ∨ i = 3 ∨ i = 4 ∨ i = 5) ∧ Aside0 (PackOk i a0_0 a0_1 a0_2 a0_3 a0_4) ∧ Aside0 (PackW a0_0 a0_1 a0_2 a0_3 a0_4 A0_5 c0_5 l0_5 w wr)) (fun v20 _ => (5 - intOf v20).toNat)
  case atStart => exact ⟨0, rfl, .inl rfl, ⟨by unfold PackOk; omega⟩, HP⟩
  case round =>
    clear HP
    obtain ⟨i, rfl, hi, HOK, HP⟩ := hrel
    rcases hi with rfl | rfl | rfl | rfl | rfl | rfl
    · obtain ⟨p0, p1, p2, p3, p4, p5, psz, pb⟩ := HP.out
      have PB := Aside0.mk pb
      clear pb
      have hix := wire_limits.at0
      go_wp2_with (fail)
      clear hix
      obtain ⟨W, hW⟩ : ∃ W, W = wr.alloc (.cells #[.int .i64 1, .int .i64 4] 96) := ⟨_, rfl⟩
      have q0 : W.cell? ⟨w.heap.size + 1, 0, none⟩ = some (.int .i64 a0_0) := by rw [hW, World.cell?_alloc_lt _ _ _ psz]; exact p0
      have q1 : W.cell? ⟨wr.heap.size, 0, none⟩ = some (.int .i64 1) := by rw [hW]; simp [go_sem]
      have q2 : W.cell? ⟨wr.heap.size, 1, none⟩ = some (.int .i64 4) := by rw [hW]; simp [go_sem]
      have z0 : w.heap.size + 1 < W.heap.size := by rw [hW]; simp; omega
      have z1 : wr.heap.size < W.heap.size := by rw [hW]; simp
      have HPW := Aside0.mk (PackW.below HP.out (show Below wr.heap.size wr W by rw [hW]; exact below_alloc (Below.refl _ _) _))
      clear p0 p1 p2 p3 p4 p5 PB HP
      rw [← hW]
      clear hW psz
      by_cases ht : 1 ≤ a0_0 ∧ a0_0 ≤ 4
      · have HT : Aside0 (wire_in.f a0_0 1 4 = some true) := ⟨by unfold wire_in.f; rw [if_pos ht.1]; simp; exact ht.2⟩
        have HOK2 : Aside0 (PackOk 1 a0_0 a0_1 a0_2 a0_3 a0_4) := ⟨by have := HOK.out; unfold PackOk at this ⊢; omega⟩
        clear ht HOK
        go_region_held3 (fun w' => w'.cell? ⟨w.heap.size + 1, 0, none⟩ = some (.int .i64 a0_0) ∧ w'.cell? ⟨wr.heap.size, 0, none⟩ = some (.int .i64 1) ∧ w'.cell? ⟨wr.heap.size, 1, none⟩ = some (.int .i64 4)) (go_keep)
          ((go_at_call 63; refine (wire_in.calls a0_0 1 4 true _ HT.out).mono ?_; rintro e w3 ⟨rfl, hb3⟩; have k0 := (hb3.cell (p := ⟨w.heap.size + 1, 0, none⟩) (by simpa using z0)).trans (show _ = some (.int .i64 a0_0) by simpa using q0); have k1 := (hb3.cell (p := ⟨wr.heap.size, 0, none⟩) (by simpa using z1)).trans (show _ = some (.int .i64 1) by simpa using q1); have k2 := (hb3.cell (p := ⟨wr.heap.size, 1, none⟩) (by simpa using z1)).trans (show _ = some (.int .i64 4) by simpa using q2)))
        have HP3 := Aside0.mk (PackW.below HPW.out (⟨hb3.os, hb3.tape, hb3.output, hb3.size, hb3.block⟩ : Below W.heap.size W w3))
        clear hb3 k0 k1 k2 q0 q1 q2 z0 z1 HPW
        go_wp2
        exact ⟨⟨1, rfl, .inr (.inl rfl), HOK2, HP3⟩, by simp [intOf]⟩
      · have HT : Aside0 (wire_in.f a0_0 1 4 = some false) := ⟨by
          unfold wire_in.f
          by_cases hx : a0_0 ≥ 1
          · rw [if_pos hx]; simp; omega
          · rw [if_neg hx]⟩
        have HN : Aside0 (([] : List Int) = r1 ∧ (1 : Int) = r2) := ⟨by
          have h := HH.out
          unfold wire_Pack.f at h
          rw [if_neg (by omega)] at h
          simpa using h⟩
        clear ht HOK HH
        go_region_held3 (fun w' => w'.cell? ⟨w.heap.size + 1, 0, none⟩ = some (.int .i64 a0_0) ∧ w'.cell? ⟨wr.heap.size, 0, none⟩ = some (.int .i64 1) ∧ w'.cell? ⟨wr.heap.size, 1, none⟩ = some (.int .i64 4)) (go_keep)
          ((go_at_call 63; refine (wire_in.calls a0_0 1 4 false _ HT.out).mono ?_; rintro e w3 ⟨rfl, hb3⟩; have k0 := (hb3.cell (p := ⟨w.heap.size + 1, 0, none⟩) (by simpa using z0)).trans (show _ = some (.int .i64 a0_0) by simpa using q0); have k1 := (hb3.cell (p := ⟨wr.heap.size, 0, none⟩) (by simpa using z1)).trans (show _ = some (.int .i64 1) by simpa using q1); have k2 := (hb3.cell (p := ⟨wr.heap.size, 1, none⟩) (by simpa using z1)).trans (show _ = some (.int .i64 4) by simpa using q2)))
        have HP3 := Aside0.mk (PackW.below HPW.out (⟨hb3.os, hb3.tape, hb3.output, hb3.size, hb3.block⟩ : Below W.heap.size W w3))
        clear hb3 k0 k1 k2 q0 q1 q2 z0 z1 HPW
        obtain ⟨rfl, rfl⟩ := HN.out
        go_wp2
        go_ret2
        exact ⟨_, rfl, Kd.R_nil _ _ _ _ _, HP3.out.2.2.2.2.2.2.2⟩
    · obtain ⟨p0, p1, p2, p3, p4, p5, psz, pb⟩ := HP.out
      have PB := Aside0.mk pb
      clear pb
      have hix := wire_limits.at1
      go_wp2_with (fail)
      clear hix
      obtain ⟨W, hW⟩ : ∃ W, W = wr.alloc (.cells #[.int .i64 0, .int .i64 59] 96) := ⟨_, rfl⟩
      have q0 : W.cell? ⟨w.heap.size + 1, 1, none⟩ = some (.int .i64 a0_1) := by rw [hW, World.cell?_alloc_lt _ _ _ psz]; exact p1
      have q1 : W.cell? ⟨wr.heap.size, 0, none⟩ = some (.int .i64 0) := by rw [hW]; simp [go_sem]
      have q2 : W.cell? ⟨wr.heap.size, 1, none⟩ = some (.int .i64 59) := by rw [hW]; simp [go_sem]
      have z0 : w.heap.size + 1 < W.heap.size := by rw [hW]; simp; omega
      have z1 : wr.heap.size < W.heap.size := by rw [hW]; simp
      have HPW := Aside0.mk (PackW.below HP.out (show Below wr.heap.size wr W by rw [hW]; exact below_alloc (Below.refl _ _) _))
      clear p0 p1 p2 p3 p4 p5 PB HP
      rw [← hW]
      clear hW psz
      by_cases ht : 0 ≤ a0_1 ∧ a0_1 ≤ 59
      · have HT : Aside0 (wire_in.f a0_1 0 59 = some true) := ⟨by unfold wire_in.f; rw [if_pos ht.1]; simp; exact ht.2⟩
        have HOK2 : Aside0 (PackOk 2 a0_0 a0_1 a0_2 a0_3 a0_4) := ⟨by have := HOK.out; unfold PackOk at this ⊢; omega⟩
        clear ht HOK
        go_region_held3 (fun w' => w'.cell? ⟨w.heap.size + 1, 1, none⟩ = some (.int .i64 a0_1) ∧ w'.cell? ⟨wr.heap.size, 0, none⟩ = some (.int .i64 0) ∧ w'.cell? ⟨wr.heap.size, 1, none⟩ = some (.int .i64 59)) (go_keep)
          ((go_at_call 63; refine (wire_in.calls a0_1 0 59 true _ HT.out).mono ?_; rintro e w3 ⟨rfl, hb3⟩; have k0 := (hb3.cell (p := ⟨w.heap.size + 1, 1, none⟩) (by simpa using z0)).trans (show _ = some (.int .i64 a0_1) by simpa using q0); have k1 := (hb3.cell (p := ⟨wr.heap.size, 0, none⟩) (by simpa using z1)).trans (show _ = some (.int .i64 0) by simpa using q1); have k2 := (hb3.cell (p := ⟨wr.heap.size, 1, none⟩) (by simpa using z1)).trans (show _ = some (.int .i64 59) by simpa using q2)))
        have HP3 := Aside0.mk (PackW.below HPW.out (⟨hb3.os, hb3.tape, hb3.output, hb3.size, hb3.block⟩ : Below W.heap.size W w3))
        clear hb3 k0 k1 k2 q0 q1 q2 z0 z1 HPW
        go_wp2
        exact ⟨⟨2, rfl, .inr (.inr (.inl rfl)), HOK2, HP3⟩, by simp [intOf]⟩
      · have HT : Aside0 (wire_in.f a0_1 0 59 = some false) := ⟨by
          unfold wire_in.f
          by_cases hx : a0_1 ≥ 0
          · rw [if_pos hx]; simp; omega
          · rw [if_neg hx]⟩
        have HN : Aside0 (([] : List Int) = r1 ∧ (1 : Int) = r2) := ⟨by
          have h := HH.out
          unfold wire_Pack.f at h
          rw [if_neg (by omega)] at h
          simpa using h⟩
        clear ht HOK HH
        go_region_held3 (fun w' => w'.cell? ⟨w.heap.size + 1, 1, none⟩ = some (.int .i64 a0_1) ∧ w'.cell? ⟨wr.heap.size, 0, none⟩ = some (.int .i64 0) ∧ w'.cell? ⟨wr.heap.size, 1, none⟩ = some (.int .i64 59)) (go_keep)
          ((go_at_call 63; refine (wire_in.calls a0_1 0 59 false _ HT.out).mono ?_; rintro e w3 ⟨rfl, hb3⟩; have k0 := (hb3.cell (p := ⟨w.heap.size + 1, 1, none⟩) (by simpa using z0)).trans (show _ = some (.int .i64 a0_1) by simpa using q0); have k1 := (hb3.cell (p := ⟨wr.heap.size, 0, none⟩) (by simpa using z1)).trans (show _ = some (.int .i64 0) by simpa using q1); have k2 := (hb3.cell (p := ⟨wr.heap.size, 1, none⟩) (by simpa using z1)).trans (show _ = some (.int .i64 59) by simpa using q2)))
        have HP3 := Aside0.mk (PackW.below HPW.out (⟨hb3.os, hb3.tape, hb3.output, hb3.size, hb3.block⟩ : Below W.heap.size W w3))
        clear hb3 k0 k1 k2 q0 q1 q2 z0 z1 HPW
        obtain ⟨rfl, rfl⟩ := HN.out
        go_wp2
        go_ret2
        exact ⟨_, rfl, Kd.R_nil _ _ _ _ _, HP3.out.2.2.2.2.2.2.2⟩
    · obtain ⟨p0, p1, p2, p3, p4, p5, psz, pb⟩ := HP.out
      have PB := Aside0.mk pb
      clear pb
      have hix := wire_limits.at2
      go_wp2_with (fail)
      clear hix
      obtain ⟨W, hW⟩ : ∃ W, W = wr.alloc (.cells #[.int .i64 (-1), .int .i64 59] 96) := ⟨_, rfl⟩
      have q0 : W.cell? ⟨w.heap.size + 1, 2, none⟩ = some (.int .i64 a0_2) := by rw [hW, World.cell?_alloc_lt _ _ _ psz]; exact p2
      have q1 : W.cell? ⟨wr.heap.size, 0, none⟩ = some (.int .i64 (-1)) := by rw [hW]; simp [go_sem]
      have q2 : W.cell? ⟨wr.heap.size, 1, none⟩ = some (.int .i64 59) := by rw [hW]; simp [go_sem]
      have z0 : w.heap.size + 1 < W.heap.size := by rw [hW]; simp; omega
      have z1 : wr.heap.size < W.heap.size := by rw [hW]; simp
      have HPW := Aside0.mk (PackW.below HP.out (show Below wr.heap.size wr W by rw [hW]; exact below_alloc (Below.refl _ _) _))
      clear p0 p1 p2 p3 p4 p5 PB HP
      rw [← hW]
      clear hW psz
      by_cases ht : (-1) ≤ a0_2 ∧ a0_2 ≤ 59
      · have HT : Aside0 (wire_in.f a0_2 (-1) 59 = some true) := ⟨by unfold wire_in.f; rw [if_pos ht.1]; simp; exact ht.2⟩
        have HOK2 : Aside0 (PackOk 3 a0_0 a0_1 a0_2 a0_3 a0_4) := ⟨by have := HOK.out; unfold PackOk at this ⊢; omega⟩
        clear ht HOK
        go_region_held3 (fun w' => w'.cell? ⟨w.heap.size + 1, 2, none⟩ = some (.int .i64 a0_2) ∧ w'.cell? ⟨wr.heap.size, 0, none⟩ = some (.int .i64 (-1)) ∧ w'.cell? ⟨wr.heap.size, 1, none⟩ = some (.int .i64 59)) (go_keep)
          ((go_at_call 63; refine (wire_in.calls a0_2 (-1) 59 true _ HT.out).mono ?_; rintro e w3 ⟨rfl, hb3⟩; have k0 := (hb3.cell (p := ⟨w.heap.size + 1, 2, none⟩) (by simpa using z0)).trans (show _ = some (.int .i64 a0_2) by simpa using q0); have k1 := (hb3.cell (p := ⟨wr.heap.size, 0, none⟩) (by simpa using z1)).trans (show _ = some (.int .i64 (-1)) by simpa using q1); have k2 := (hb3.cell (p := ⟨wr.heap.size, 1, none⟩) (by simpa using z1)).trans (show _ = some (.int .i64 59) by simpa using q2)))
        have HP3 := Aside0.mk (PackW.below HPW.out (⟨hb3.os, hb3.tape, hb3.output, hb3.size, hb3.block⟩ : Below W.heap.size W w3))
        clear hb3 k0 k1 k2 q0 q1 q2 z0 z1 HPW
        go_wp2
        exact ⟨⟨3, rfl, .inr (.inr (.inr (.inl rfl))), HOK2, HP3⟩, by simp [intOf]⟩
      · have HT : Aside0 (wire_in.f a0_2 (-1) 59 = some false) := ⟨by
          unfold wire_in.f
          by_cases hx : a0_2 ≥ (-1)
          · rw [if_pos hx]; simp; omega
          · rw [if_neg hx]⟩
        have HN : Aside0 (([] : List Int) = r1 ∧ (1 : Int) = r2) := ⟨by
          have h := HH.out
          unfold wire_Pack.f at h
          rw [if_neg (by omega)] at h
          simpa using h⟩
        clear ht HOK HH
        go_region_held3 (fun w' => w'.cell? ⟨w.heap.size + 1, 2, none⟩ = some (.int .i64 a0_2) ∧ w'.cell? ⟨wr.heap.size, 0, none⟩ = some (.int .i64 (-1)) ∧ w'.cell? ⟨wr.heap.size, 1, none⟩ = some (.int .i64 59)) (go_keep)
          ((go_at_call 63; refine (wire_in.calls a0_2 (-1) 59 false _ HT.out).mono ?_; rintro e w3 ⟨rfl, hb3⟩; have k0 := (hb3.cell (p := ⟨w.heap.size + 1, 2, none⟩) (by simpa using z0)).trans (show _ = some (.int .i64 a0_2) by simpa using q0); have k1 := (hb3.cell (p := ⟨wr.heap.size, 0, none⟩) (by simpa using z1)).trans (show _ = some (.int .i64 (-1)) by simpa using q1); have k2 := (hb3.cell (p := ⟨wr.heap.size, 1, none⟩) (by simpa using z1)).trans (show _ = some (.int .i64 59) by simpa using q2)))
        have HP3 := Aside0.mk (PackW.below HPW.out (⟨hb3.os, hb3.tape, hb3.output, hb3.size, hb3.block⟩ : Below W.heap.size W w3))
        clear hb3 k0 k1 k2 q0 q1 q2 z0 z1 HPW
        obtain ⟨rfl, rfl⟩ := HN.out
        go_wp2
        go_ret2
        exact ⟨_, rfl, Kd.R_nil _ _ _ _ _, HP3.out.2.2.2.2.2.2.2⟩
    · obtain ⟨p0, p1, p2, p3, p4, p5, psz, pb⟩ := HP.out
      have PB := Aside0.mk pb
      clear pb
      have hix := wire_limits.at3
      go_wp2_with (fail)
      clear hix
      obtain ⟨W, hW⟩ : ∃ W, W = wr.alloc (.cells #[.int .i64 0, .int .i64 1000000000] 96) := ⟨_, rfl⟩
      have q0 : W.cell? ⟨w.heap.size + 1, 3, none⟩ = some (.int .i64 a0_3) := by rw [hW, World.cell?_alloc_lt _ _ _ psz]; exact p3
      have q1 : W.cell? ⟨wr.heap.size, 0, none⟩ = some (.int .i64 0) := by rw [hW]; simp [go_sem]
      have q2 : W.cell? ⟨wr.heap.size, 1, none⟩ = some (.int .i64 1000000000) := by rw [hW]; simp [go_sem]
      have z0 : w.heap.size + 1 < W.heap.size := by rw [hW]; simp; omega
      have z1 : wr.heap.size < W.heap.size := by rw [hW]; simp
      have HPW := Aside0.mk (PackW.below HP.out (show Below wr.heap.size wr W by rw [hW]; exact below_alloc (Below.refl _ _) _))
      clear p0 p1 p2 p3 p4 p5 PB HP
      rw [← hW]
      clear hW psz
      by_cases ht : 0 ≤ a0_3 ∧ a0_3 ≤ 1000000000
      · have HT : Aside0 (wire_in.f a0_3 0 1000000000 = some true) := ⟨by unfold wire_in.f; rw [if_pos ht.1]; simp; exact ht.2⟩
        have HOK2 : Aside0 (PackOk 4 a0_0 a0_1 a0_2 a0_3 a0_4) := ⟨by have := HOK.out; unfold PackOk at this ⊢; omega⟩
        clear ht HOK
        go_region_held3 (fun w' => w'.cell? ⟨w.heap.size + 1, 3, none⟩ = some (.int .i64 a0_3) ∧ w'.cell? ⟨wr.heap.size, 0, none⟩ = some (.int .i64 0) ∧ w'.cell? ⟨wr.heap.size, 1, none⟩ = some (.int .i64 1000000000)) (go_keep)
          ((go_at_call 63; refine (wire_in.calls a0_3 0 1000000000 true _ HT.out).mono ?_; rintro e w3 ⟨rfl, hb3⟩; have k0 := (hb3.cell (p := ⟨w.heap.size + 1, 3, none⟩) (by simpa using z0)).trans (show _ = some (.int .i64 a0_3) by simpa using q0); have k1 := (hb3.cell (p := ⟨wr.heap.size, 0, none⟩) (by simpa using z1)).trans (show _ = some (.int .i64 0) by simpa using q1); have k2 := (hb3.cell (p := ⟨wr.heap.size, 1, none⟩) (by simpa using z1)).trans (show _ = some (.int .i64 1000000000) by simpa using q2)))
        have HP3 := Aside0.mk (PackW.below HPW.out (⟨hb3.os, hb3.tape, hb3.output, hb3.size, hb3.block⟩ : Below W.heap.size W w3))
        clear hb3 k0 k1 k2 q0 q1 q2 z0 z1 HPW
        go_wp2
        exact ⟨⟨4, rfl, .inr (.inr (.inr (.inr (.inl rfl)))), HOK2, HP3⟩, by simp [intOf]⟩
      · have HT : Aside0 (wire_in.f a0_3 0 1000000000 = some false) := ⟨by
          unfold wire_in.f
          by_cases hx : a0_3 ≥ 0
          · rw [if_pos hx]; simp; omega
          · rw [if_neg hx]⟩
        have HN : Aside0 (([] : List Int) = r1 ∧ (1 : Int) = r2) := ⟨by
          have h := HH.out
          unfold wire_Pack.f at h
          rw [if_neg (by omega)] at h
          simpa using h⟩
        clear ht HOK HH
        go_region_held3 (fun w' => w'.cell? ⟨w.heap.size + 1, 3, none⟩ = some (.int .i64 a0_3) ∧ w'.cell? ⟨wr.heap.size, 0, none⟩ = some (.int .i64 0) ∧ w'.cell? ⟨wr.heap.size, 1, none⟩ = some (.int .i64 1000000000)) (go_keep)
          ((go_at_call 63; refine (wire_in.calls a0_3 0 1000000000 false _ HT.out).mono ?_; rintro e w3 ⟨rfl, hb3⟩; have k0 := (hb3.cell (p := ⟨w.heap.size + 1, 3, none⟩) (by simpa using z0)).trans (show _ = some (.int .i64 a0_3) by simpa using q0); have k1 := (hb3.cell (p := ⟨wr.heap.size, 0, none⟩) (by simpa using z1)).trans (show _ = some (.int .i64 0) by simpa using q1); have k2 := (hb3.cell (p := ⟨wr.heap.size, 1, none⟩) (by simpa using z1)).trans (show _ = some (.int .i64 1000000000) by simpa using q2)))
        have HP3 := Aside0.mk (PackW.below HPW.out (⟨hb3.os, hb3.tape, hb3.output, hb3.size, hb3.block⟩ : Below W.heap.size W w3))
        clear hb3 k0 k1 k2 q0 q1 q2 z0 z1 HPW
        obtain ⟨rfl, rfl⟩ := HN.out
        go_wp2
        go_ret2
        exact ⟨_, rfl, Kd.R_nil _ _ _ _ _, HP3.out.2.2.2.2.2.2.2⟩
    · obtain ⟨p0, p1, p2, p3, p4, p5, psz, pb⟩ := HP.out
      have PB := Aside0.mk pb
      clear pb
      have hix := wire_limits.at4
      go_wp2_with (fail)
      clear hix
      obtain ⟨W, hW⟩ : ∃ W, W = wr.alloc (.cells #[.int .i64 0, .int .i64 2000000] 96) := ⟨_, rfl⟩
      have q0 : W.cell? ⟨w.heap.size + 1, 4, none⟩ = some (.int .i64 a0_4) := by rw [hW, World.cell?_alloc_lt _ _ _ psz]; exact p4
      have q1 : W.cell? ⟨wr.heap.size, 0, none⟩ = some (.int .i64 0) := by rw [hW]; simp [go_sem]
      have q2 : W.cell? ⟨wr.heap.size, 1, none⟩ = some (.int .i64 2000000) := by rw [hW]; simp [go_sem]
      have z0 : w.heap.size + 1 < W.heap.size := by rw [hW]; simp; omega
      have z1 : wr.heap.size < W.heap.size := by rw [hW]; simp
      have HPW := Aside0.mk (PackW.below HP.out (show Below wr.heap.size wr W by rw [hW]; exact below_alloc (Below.refl _ _) _))
      clear p0 p1 p2 p3 p4 p5 PB HP
      rw [← hW]
      clear hW psz
      by_cases ht : 0 ≤ a0_4 ∧ a0_4 ≤ 2000000
      · have HT : Aside0 (wire_in.f a0_4 0 2000000 = some true) := ⟨by unfold wire_in.f; rw [if_pos ht.1]; simp; exact ht.2⟩
        have HOK2 : Aside0 (PackOk 5 a0_0 a0_1 a0_2 a0_3 a0_4) := ⟨by have := HOK.out; unfold PackOk at this ⊢; omega⟩
        clear ht HOK
        go_region_held3 (fun w' => w'.cell? ⟨w.heap.size + 1, 4, none⟩ = some (.int .i64 a0_4) ∧ w'.cell? ⟨wr.heap.size, 0, none⟩ = some (.int .i64 0) ∧ w'.cell? ⟨wr.heap.size, 1, none⟩ = some (.int .i64 2000000)) (go_keep)
          ((go_at_call 63; refine (wire_in.calls a0_4 0 2000000 true _ HT.out).mono ?_; rintro e w3 ⟨rfl, hb3⟩; have k0 := (hb3.cell (p := ⟨w.heap.size + 1, 4, none⟩) (by simpa using z0)).trans (show _ = some (.int .i64 a0_4) by simpa using q0); have k1 := (hb3.cell (p := ⟨wr.heap.size, 0, none⟩) (by simpa using z1)).trans (show _ = some (.int .i64 0) by simpa using q1); have k2 := (hb3.cell (p := ⟨wr.heap.size, 1, none⟩) (by simpa using z1)).trans (show _ = some (.int .i64 2000000) by simpa using q2)))
        have HP3 := Aside0.mk (PackW.below HPW.out (⟨hb3.os, hb3.tape, hb3.output, hb3.size, hb3.block⟩ : Below W.heap.size W w3))
        clear hb3 k0 k1 k2 q0 q1 q2 z0 z1 HPW
        go_wp2
        exact ⟨⟨5, rfl, .inr (.inr (.inr (.inr (.inr rfl)))), HOK2, HP3⟩, by simp [intOf]⟩
      · have HT : Aside0 (wire_in.f a0_4 0 2000000 = some false) := ⟨by
          unfold wire_in.f
          by_cases hx : a0_4 ≥ 0
          · rw [if_pos hx]; simp; omega
          · rw [if_neg hx]⟩
        have HN : Aside0 (([] : List Int) = r1 ∧ (1 : Int) = r2) := ⟨by
          have h := HH.out
          unfold wire_Pack.f at h
          rw [if_neg (by omega)] at h
          simpa using h⟩
        clear ht HOK HH
        go_region_held3 (fun w' => w'.cell? ⟨w.heap.size + 1, 4, none⟩ = some (.int .i64 a0_4) ∧ w'.cell? ⟨wr.heap.size, 0, none⟩ = some (.int .i64 0) ∧ w'.cell? ⟨wr.heap.size, 1, none⟩ = some (.int .i64 2000000)) (go_keep)
          ((go_at_call 63; refine (wire_in.calls a0_4 0 2000000 false _ HT.out).mono ?_; rintro e w3 ⟨rfl, hb3⟩; have k0 := (hb3.cell (p := ⟨w.heap.size + 1, 4, none⟩) (by simpa using z0)).trans (show _ = some (.int .i64 a0_4) by simpa using q0); have k1 := (hb3.cell (p := ⟨wr.heap.size, 0, none⟩) (by simpa using z1)).trans (show _ = some (.int .i64 0) by simpa using q1); have k2 := (hb3.cell (p := ⟨wr.heap.size, 1, none⟩) (by simpa using z1)).trans (show _ = some (.int .i64 2000000) by simpa using q2)))
        have HP3 := Aside0.mk (PackW.below HPW.out (⟨hb3.os, hb3.tape, hb3.output, hb3.size, hb3.block⟩ : Below W.heap.size W w3))
        clear hb3 k0 k1 k2 q0 q1 q2 z0 z1 HPW
        obtain ⟨rfl, rfl⟩ := HN.out
        go_wp2
        go_ret2
        exact ⟨_, rfl, Kd.R_nil _ _ _ _ _, HP3.out.2.2.2.2.2.2.2⟩
    · obtain ⟨p0, p1, p2, p3, p4, p5, psz, pb⟩ := HP.out
      have PB := Aside0.mk pb
      clear pb
      have hok := HOK.out
      unfold PackOk at hok
      clear HOK
      by_cases hlen : l0_5.length ≤ 4000
      · have hlb : decide ((4000 : Int) < (l0_5.length : Int)) = false := decide_eq_false (by omega)
        have h := HH.out
        unfold wire_Pack.f at h
        rw [if_pos (by omega)] at h
        clear HH hok
        obtain ⟨b, hb, h2⟩ := Option.bind_eq_some_iff.1 h
        clear h
        obtain ⟨b2, hb2, h3⟩ := Option.bind_eq_some_iff.1 h2
        clear h2
        have hlim : b2.length + l0_5.length < 140737488355328 := by
          rcases Nat.lt_or_ge (b2.length + l0_5.length) 140737488355328 with hh | hh
          · exact hh
          · rw [if_neg (by omega)] at h3; cases h3
        rw [if_pos hlim] at h3
        obtain ⟨rfl, rfl⟩ := Prod.mk.inj (Option.some.inj h3)
        have A1 := Aside0.mk hb
        have A2 := Aside0.mk hb2
        have LM := Aside0.mk hlim
        clear h3 hb hb2 hlim hlen
        have hrd : ∀ W_, Kept wr W_ (fun _ => False) → Kd.C (Kd.int .i64) W_ (some ⟨w.heap.size + 1, 0, none⟩) [a0_0, a0_1, a0_2, a0_3, a0_4].length [a0_0, a0_1, a0_2, a0_3, a0_4] := fun W_ hk =>
          Kd.C_of_reads (d := (0 : Int)) (h1 := fun _ => rfl) ⟨rfl, by simp, fun _ => ⟨_, rfl, fun j hj => by
            have hj5 : j = 0 ∨ j = 1 ∨ j = 2 ∨ j = 3 ∨ j = 4 := by simp at hj; omega
            rcases hj5 with rfl | rfl | rfl | rfl | rfl
            · exact cell_kept p0 hk (fun h => h)
            · exact cell_kept p1 hk (fun h => h)
            · exact cell_kept p2 hk (fun h => h)
            · exact cell_kept p3 hk (fun h => h)
            · exact cell_kept p4 hk (fun h => h)⟩⟩
        have HRD := Aside0.mk hrd
        have HBW := Aside0.mk (Below.refl wr.heap.size wr)
        clear hrd p0 p1 p2 p3 p4
        go_wp2_with (fail)
        refine (wire_numbers.calls k (fun _ => False) (.slice none 0 0) [] (some ⟨w.heap.size + 1, 0, none⟩) 5 [a0_0, a0_1, a0_2, a0_3, a0_4] b wr wr HBW.out (Kd.R_nil _ _ _ _ _) HRD.out (by simp) A1.out).mono ?_
        rintro e w4 ⟨v4, rfl, ho4, hb4, hk4⟩
        have HO4 := Aside0.mk (show Kd.R (Kd.int .u8) 5 w4 wr.heap.size (fun k_ => v4.ownBlock = some k_) v4 b from ⟨fun _ hk => hk, ho4.2.imp_ (fun _ _ hp => hp)⟩)
        have q5 : w4.cell? ⟨w.heap.size, 5, none⟩ = some (.slice A0_5 l0_5.length c0_5) := (hb4.cell (show w.heap.size < _ by omega)).trans p5
        have HB4 := Aside0.mk hb4
        have hz4 : wr.heap.size ≤ w4.heap.size := hb4.size
        have P5 := Aside0.mk p5
        have LT4 : Aside0 (¬ v4.ownBlock = some w4.heap.size) := ⟨fun he => by
          obtain ⟨inner, ho⟩ := Kd.R_own ho4
          have := own_lt ho _ he
          omega⟩
        clear HRD A1 ho4 hb4 hk4 p5
        go_wp2_with (fail)
        go_region_held3 (fun w' => w'.cell? ⟨w.heap.size, 5, none⟩ = some (.slice A0_5 l0_5.length c0_5)) (go_keep)
          (first
            | (go_at_call 64; refine (wire_numbers.calls k (fun k_ => v4.ownBlock = some k_) v4 b (some ⟨w4.heap.size, 0, none⟩) 1 [(l0_5.length : Int)] b2 wr _ (by repeat (first | (with_reducible first | exact HB4.out | apply below_alloc | apply pw_below_drewN | apply below_drew1) | exact HB4.out)) (by (with_reducible repeat (first | apply Kd.R_alloc | apply Kd.R_drewN | apply Kd.R_drew)); exact HO4.out) (fun W_ hk => Kd.C_of_reads (d := (0 : Int)) (h1 := fun _ => rfl) ⟨rfl, by simp, fun _ => ⟨_, rfl, fun j hj => by obtain rfl : j = 0 := (by simp at hj; omega); exact cell_kept (by simp [go_sem]) hk LT4.out⟩⟩) (by simp) A2.out).mono ?_; rintro e w5 ⟨v5, rfl, ho5, hb5, hk5⟩; have q5' := (hb5.cell (p := ⟨w.heap.size, 5, none⟩) (show w.heap.size < _ by omega)).trans P5.out; have HO5 := Aside0.mk ho5; have HB5 := Aside0.mk hb5; have HR5 := Aside0.mk (Kd.C_below HR.out (below_then PB.out (by omega) hb5)); clear ho5 hb5 hk5)
            | (guard_hyp v5 : Value; refine Kd.R_append_rows_step (Kd.int .u8) (w0 := wr) wr.heap.size (by rfl) (.tmp 42) (.tmp 44) 22 5 (.int .u8 0) 1 (by rfl) Try.underlying22 info5 rfl (by decide) (by omega) v5 b2 l0_5 _ _ _ (fun _ => True) (fun _ => False) (by rfl) (by rfl) (by (with_reducible repeat (first | apply Kd.R_alloc | apply Kd.R_drewN | apply Kd.R_drew)); exact Kd.R_mono HO5.out (fun _ _ => trivial)) (by repeat (first | exact HR5.out | (with_reducible refine Kd.C_alloc ?_ _) | (with_reducible refine Kd.C_drewN ?_ _) | (with_reducible refine Kd.C_drew ?_))) (fun _ _ h => h) (fun _ h => h.elim) (fun _ _ => trivial) (by repeat (first | (with_reducible first | exact HB5.out | apply below_alloc | apply pw_below_drewN | apply below_drew1) | exact HB5.out)) (below_size (by repeat (first | (with_reducible first | exact HB5.out | apply below_alloc | apply pw_below_drewN | apply below_drew1) | exact HB5.out))) (by have := LM.out; omega) ?_; intro v6 w6 ho6 hb6 hg6 hat6; have q6 := (hb6.cell (p := ⟨w.heap.size, 5, none⟩) (show w.heap.size < _ by omega)).trans P5.out; have HO6 := Aside0.mk ho6; have HB6 := Aside0.mk hb6; clear ho6 hb6 hg6 hat6))
        go_wp2
        go_ret2
        exact ⟨_, rfl, Kd.R_lower HO6.out (by omega), below_then PB.out (by omega) HB6.out⟩
      · have hlb : decide ((4000 : Int) < (l0_5.length : Int)) = true := decide_eq_true (by omega)
        have h := HH.out
        unfold wire_Pack.f at h
        rw [if_neg (by omega)] at h
        obtain ⟨rfl, rfl⟩ := Prod.mk.inj (Option.some.inj h)
        clear h hok HH hlen
        go_wp2
        go_ret2
        exact ⟨_, rfl, Kd.R_nil _ _ _ _ _, PB.out⟩

/-! ### wire_Bytes: function 26 -/
def wire_Bytes.j0 : Nat → List Int → Int → Int → Bool → Option (List Int × Int × Int)
  | 0, _, _, _, _ => none
  | k + 1, x0, x7, x8, x21 => if x21 = true then (some (([] : List Int), 0, 3)) else (if x7 > (wrap64 ((x0.length : Int) - x8)) then (some (([] : List Int), 0, 11)) else (if 0 ≤ x8 then (if x8 ≤ (wrap64 (x8 + x7)) then (if (wrap64 (x8 + x7)) ≤ (x0.length : Int) then ((slices_Clone_byte_byte.f ((x0.take ((wrap64 (x8 + x7)) : Int).toNat).drop (x8 : Int).toNat)).bind fun t129 => (some (t129, wrap64 (x8 + x7), 0))) else (none)) else (none)) else (none)))
def wire_Bytes.f (k : Nat) (l0 : List Int) (a1 : Int) : Option (List Int × Int × Int) := (wire_Number.f l0 a1).bind fun bt125 => (if bt125.2.2 = 0 then (if bt125.1 < 0 then (wire_Bytes.j0 k l0 bt125.1 bt125.2.1 true) else (wire_Bytes.j0 k l0 bt125.1 bt125.2.1 (decide (bt125.1 > 4000)))) else (some (([] : List Int), 0, bt125.2.2)))
theorem wire_Bytes.mono_l : ∀ k, (∀ y0 y1 y2 y3, LeO (wire_Bytes.j0 k y0 y1 y2 y3) (wire_Bytes.j0 (k + 1) y0 y1 y2 y3))
  | 0 => fun _ _ _ _ r h => by simp [wire_Bytes.j0] at h
  | k + 1 => by
    have ih0 := wire_Bytes.mono_l k
    · intro y0 y1 y2 y3
      unfold wire_Bytes.j0
      repeat' first
      | (with_reducible exact ih0 _ _ _ _)
      | (with_reducible exact LeO.refl _)
      | (with_reducible exact LeO.none _)
      | (with_reducible refine LeO.ite ?_ ?_)
      | (with_reducible refine LeO.bind ?_ (fun _ => ?_))
      | exact ih0 _ _ _ _
      | exact LeO.none _
      | refine LeO.ite ?_ ?_
      | refine LeO.bind ?_ (fun _ => ?_)
theorem wire_Bytes.mono : ∀ a0 a1 k, LeO (wire_Bytes.f k a0 a1) (wire_Bytes.f (k + 1) a0 a1) := by
  intro a0 a1 k
  have ih0 := wire_Bytes.mono_l k
  unfold wire_Bytes.f
  repeat' first
      | (with_reducible exact ih0 _ _ _ _)
      | (with_reducible exact LeO.refl _)
      | (with_reducible exact LeO.none _)
      | (with_reducible refine LeO.ite ?_ ?_)
      | (with_reducible refine LeO.bind ?_ (fun _ => ?_))
      | exact ih0 _ _ _ _
      | exact LeO.none _
      | refine LeO.ite ?_ ?_
      | refine LeO.bind ?_ (fun _ => ?_)
set_option maxHeartbeats 8000000 in
set_option maxRecDepth 100000 in
theorem wire_Bytes.calls (k : Nat) (A0 : Option Addr) (c0 : Nat) (l0 : List Int) (a1 : Int) (r1 : List Int) (r2 : Int) (r3 : Int) (w : World) (hr0 : Kd.C (Kd.int .u8) w A0 l0.length l0) (hc0 : l0.length ≤ c0) (h : wire_Bytes.f k l0 a1 = some (r1, r2, r3)) :
    Calls Try.prog 26 #[.slice A0 l0.length c0, .int .i64 a1] w fun e w' => ∃ v0_ : Value, e = .returned (.tuple #[v0_, .int .i64 r2, .int .i64 r3]) ∧ Kd.R (Kd.int .u8) 5 w' w.heap.size (fun _ => True) v0_ r1 ∧ Below w.heap.size w w' := by
  have HR0 := Aside0.mk hr0
  have HC0 := Aside0.mk hc0
  clear hr0 hc0
  have HB := Aside0.mk (Below.refl w.heap.size w)
  have H : ((wire_Number.f l0 a1).bind fun bt125 => (if bt125.2.2 = 0 then (if bt125.1 < 0 then (wire_Bytes.j0 k l0 bt125.1 bt125.2.1 true) else (wire_Bytes.j0 k l0 bt125.1 bt125.2.1 (decide (bt125.1 > 4000)))) else (some (([] : List Int), 0, bt125.2.2)))) = some (r1, r2, r3) := h
  clear h
  replace H := Option.bind_eq_some_iff.mp H
  obtain ⟨⟨t125, t126, t127⟩, A30, H⟩ := H
  replace H : (if t127 = 0 then (if t125 < 0 then (wire_Bytes.j0 k l0 t125 t126 true) else (wire_Bytes.j0 k l0 t125 t126 (decide (t125 > 4000)))) else (some (([] : List Int), 0, t127))) = some (r1, r2, r3) := H
  have A3 := Aside0.mk A30
  clear A30
  by_cases c4 : t127 = 0
  · rw [if_pos c4] at H
    have c4b0 : (t127 == 0) = true := beq_iff_eq.mpr c4
    have c4b1 : (t127 != 0) = false := bne_eq_false_iff_eq.mpr c4
    clear c4
    have HC5 := Aside0.mk H
    clear H
    go_enter Try.func26, Try.ntmps26
    go_upto_region 4 with (first | ((with_reducible refine gate_callee (f := 22) rfl ?_); refine goesL_ (some 13) rfl rfl Try.func22 (by kernel_rfl) rfl #[.slice A0 l0.length c0, .int .i64 a1] rfl (by (try simp only [List.map_toArray, List.map_cons, List.map_nil]); first | done | rfl | (simp only [List.length_drop, List.length_take]; rfl)) ?_; (with_reducible refine (wire_Number.calls _ _ l0 a1 t125 t126 t127 _ ?side1 ?side2 A3.out).mono ?_); (case side1 => repeat (first | exact HR0.out | (with_reducible refine Kd.C_alloc ?_ _) | (with_reducible refine Kd.C_drewN ?_ _) | (with_reducible refine Kd.C_drew ?_))); (case side2 => exact HC0.out); rintro e w' ⟨rfl, ⟨nd, rfl⟩⟩; refine ⟨_, rfl, ?_⟩))
    (try simp only [Act.put, List.setIfInBounds_toArray, List.set_cons_zero, List.set_cons_succ])
    go_cut [21] (fun v21 wc => ∃ (kq : Nat) (x21_4 : Bool), v21 = .bool x21_4 ∧ Aside0 (wire_Bytes.j0 kq l0 t125 t126 x21_4 = some (r1, r2, r3)) ∧ Aside0 (kq ≤ k) ∧ Aside0 (Below w.heap.size w wc))
    case first =>
      have H := HC5.out
      clear HC5
      by_cases c6 : t125 < 0
      · rw [if_pos c6] at H
        have c6b0 : decide (t125 < 0) = true := decide_eq_true c6
        clear c6
        (first | rw [c6b0] | (simp only [i64_w, i32_w]; rw [c6b0]) | skip)
        have H' := Aside0.mk H
        clear H
        go_wp2
        go_meet
        case rel => exact ⟨_, (true), (by first | rfl | (simp; done) | (simp [*]; done)), H', ⟨by first | omega | exact Nat.le_refl _⟩, ⟨by repeat (first | (with_reducible first | exact HB.out | apply below_alloc | apply pw_below_drewN | apply below_drew1) | exact HB.out)⟩⟩
      · rw [if_neg c6] at H
        have c6b0 : decide (t125 < 0) = false := decide_eq_false c6
        clear c6
        (first | rw [c6b0] | (simp only [i64_w, i32_w]; rw [c6b0]) | skip)
        have H' := Aside0.mk H
        clear H
        go_wp2
        go_meet
        case rel => exact ⟨_, (decide (t125 > 4000)), (by first | rfl | (simp; done) | (simp [*]; done)), H', ⟨by first | omega | exact Nat.le_refl _⟩, ⟨by repeat (first | (with_reducible first | exact HB.out | apply below_alloc | apply pw_below_drewN | apply below_drew1) | exact HB.out)⟩⟩
    case rest =>
      clear HC5
      try clear c2
      try clear p2
      try clear c4
      try clear c4b0
      try clear c4b1
      try clear c6
      try clear c6b0
      obtain ⟨kq, x21_4, rfl, HA, HJ4, HB⟩ := hcut
      cases kq with
      | zero => exact absurd HA.out (by simp [wire_Bytes.j0])
      | succ kj4 =>
        have H := HA.out
        clear HA
        simp only [wire_Bytes.j0] at H
        by_cases c7 : x21_4 = true
        · subst c7
          have H1 : (some (([] : List Int), 0, 3)) = some (r1, r2, r3) := by rw [if_pos rfl] at H; exact H
          clear H
          have H := H1
          clear H1
          simp only [Option.some.injEq, Prod.mk.injEq] at H
          obtain ⟨rfl, rfl, rfl⟩ := H
          go_wp2
          go_ret3
          exact ⟨_, by first | rfl | (simp [errW_none, errW_some] <;> rfl) | (simp [*, errW_none, errW_some] <;> rfl), by first | exact Kd.R_nil _ _ _ _ _ | exact Kd.N_nil _ _ _ _ _ | exact Kd.V_nil _ _ _ _ _ | exact Kd.Q_nil _ _ _ _ _ | exact Kd.S_nil _ _ _ _ _, by repeat (first | (with_reducible first | exact HB.out | apply below_alloc | apply pw_below_drewN | apply below_drew1) | exact HB.out)⟩
        · replace c7 := Bool.eq_false_iff.mpr c7
          subst c7
          have H1 : (if t125 > (wrap64 ((l0.length : Int) - t126)) then (some (([] : List Int), 0, 11)) else (if 0 ≤ t126 then (if t126 ≤ (wrap64 (t126 + t125)) then (if (wrap64 (t126 + t125)) ≤ (l0.length : Int) then ((slices_Clone_byte_byte.f ((l0.take ((wrap64 (t126 + t125)) : Int).toNat).drop (t126 : Int).toNat)).bind fun t129 => (some (t129, wrap64 (t126 + t125), 0))) else (none)) else (none)) else (none))) = some (r1, r2, r3) := by rw [if_neg (show ¬ (false = true) by decide)] at H; exact H
          clear H
          have H := H1
          clear H1
          by_cases c8 : t125 > (wrap64 ((l0.length : Int) - t126))
          · rw [if_pos c8] at H
            have c8b0 : decide ((wrap64 ((l0.length : Int) - t126)) < t125) = true := decide_eq_true c8
            clear c8
            simp only [Option.some.injEq, Prod.mk.injEq] at H
            obtain ⟨rfl, rfl, rfl⟩ := H
            go_wp2
            go_ret3
            exact ⟨_, by first | rfl | (simp [errW_none, errW_some] <;> rfl) | (simp [*, errW_none, errW_some] <;> rfl), by first | exact Kd.R_nil _ _ _ _ _ | exact Kd.N_nil _ _ _ _ _ | exact Kd.V_nil _ _ _ _ _ | exact Kd.Q_nil _ _ _ _ _ | exact Kd.S_nil _ _ _ _ _, by repeat (first | (with_reducible first | exact HB.out | apply below_alloc | apply pw_below_drewN | apply below_drew1) | exact HB.out)⟩
          · rw [if_neg c8] at H
            have c8b0 : decide ((wrap64 ((l0.length : Int) - t126)) < t125) = false := decide_eq_false c8
            clear c8
            by_cases c9 : 0 ≤ t126
            · rw [if_pos c9] at H
              have c9b0 := eq_true c9
              have c9b1 : decide (0 ≤ t126) = true := decide_eq_true c9
              clear c9
              by_cases c10 : t126 ≤ (wrap64 (t126 + t125))
              · rw [if_pos c10] at H
                have c10b0 := eq_true c10
                have c10b1 : decide (t126 ≤ (wrap64 (t126 + t125))) = true := decide_eq_true c10
                by_cases c11 : (wrap64 (t126 + t125)) ≤ (l0.length : Int)
                · rw [if_pos c11] at H
                  have c11b0 := eq_true c11
                  have c11b1 : decide ((wrap64 (t126 + t125)) ≤ (l0.length : Int)) = true := decide_eq_true c11
                  replace H := Option.bind_eq_some_iff.mp H
                  obtain ⟨t129, A120, H⟩ := H
                  replace H : (some (t129, wrap64 (t126 + t125), 0)) = some (r1, r2, r3) := H
                  have A12 := Aside0.mk A120
                  clear A120
                  simp only [Option.some.injEq, Prod.mk.injEq] at H
                  obtain ⟨rfl, rfl, rfl⟩ := H
                  obtain ⟨i013, hi013, _, hsz13, _⟩ := info_parts info5
                  obtain ⟨A13, hcut13, hA13, hC13⟩ := print_mid_of (P := Try.prog) (Value.int .u8) 0 22 5 .i64 .i64 Try.underlying22 hi013 hsz13 A0 c0 l0 t126 (wrap64 (t126 + t125)) (of_decide_eq_true (by first | (with_reducible assumption) | assumption)) (by first | omega | exact of_decide_eq_true (by first | (with_reducible assumption) | assumption)) (of_decide_eq_true (by first | (with_reducible assumption) | assumption)) HC0.out
                  have HR128 := Aside0.mk (Kd.C_of_reads (h1 := fun _ => rfl) (hA13 _ (Kd.reads_of_C HR0.out)))
                  have HC128 := Aside0.mk hC13
                  clear hA13 hC13 hi013 hsz13
                  go_wp2_with (first | ((with_reducible refine gate_callee (f := 55) rfl ?_); refine goesL_ (some 41) rfl rfl Try.func55 (by kernel_rfl) rfl #[.slice A13 ((l0.take ((wrap64 (t126 + t125)) : Int).toNat).drop (t126 : Int).toNat).length (c0 - t126.toNat)] rfl (by (try simp only [List.map_toArray, List.map_cons, List.map_nil]); first | done | (rw [show ((l0.take ((wrap64 (t126 + t125)) : Int).toNat).drop (t126 : Int).toNat).length = ((wrap64 (t126 + t125)).toNat - t126.toNat) from (by rw [List.length_drop, List.length_take]; have h_ : ((wrap64 (t126 + t125)) : Int) ≤ (l0.length : Int) := of_decide_eq_true (by first | (with_reducible assumption) | assumption); omega)] <;> rfl) | rfl | (simp only [List.length_drop, List.length_take]; rfl)) ?_; (with_reducible refine (slices_Clone_byte_byte.calls _ _ ((l0.take ((wrap64 (t126 + t125)) : Int).toNat).drop (t126 : Int).toNat) t129 _ ?side1 ?side2 A12.out).mono ?_); (case side1 => repeat (first | exact (Kd.C_below HR128.out HB.out) | (with_reducible refine Kd.C_alloc ?_ _) | (with_reducible refine Kd.C_drewN ?_ _) | (with_reducible refine Kd.C_drew ?_))); (case side2 => exact HC128.out); rintro e w14 ⟨v130, rfl, ho0, hb⟩; refine ⟨_, rfl, ?_⟩; have n0_ := Aside0.mk (Kd.R_lower ho0 (below_size (by repeat (first | (with_reducible first | exact HB.out | apply below_alloc | apply pw_below_drewN | apply below_drew1) | exact HB.out)))); have n1_ := Aside0.mk (below_step (by repeat (first | (with_reducible first | exact HB.out | apply below_alloc | apply pw_below_drewN | apply below_drew1) | exact HB.out)) hb); clear HB; have HO131 := n0_; have HB := n1_; clear n0_ n1_; (try clear hb); (try clear hb2); (try clear hk); (try clear hi); (try clear ho0)))
                  go_ret3
                  exact ⟨_, by first | rfl | (simp [errW_none, errW_some] <;> rfl) | (simp [*, errW_none, errW_some] <;> rfl), by (with_reducible repeat (first | apply Kd.R_alloc | apply Kd.R_drewN | apply Kd.R_drew)); exact HO131.out, by repeat (first | (with_reducible first | exact HB.out | apply below_alloc | apply pw_below_drewN | apply below_drew1) | exact HB.out)⟩
                · rw [if_neg c11] at H
                  exact absurd H (by simp)
              · rw [if_neg c10] at H
                exact absurd H (by simp)
            · rw [if_neg c9] at H
              exact absurd H (by simp)
  · rw [if_neg c4] at H
    have c4b0 : (t127 == 0) = false := beq_eq_false_iff_ne.mpr c4
    have c4b1 : (t127 != 0) = true := bne_iff_ne.mpr c4
    simp only [Option.some.injEq, Prod.mk.injEq] at H
    obtain ⟨rfl, rfl, rfl⟩ := H
    go_enter Try.func26, Try.ntmps26
    go_wp2_with (first | ((with_reducible refine gate_callee (f := 22) rfl ?_); refine goesL_ (some 13) rfl rfl Try.func22 (by kernel_rfl) rfl #[.slice A0 l0.length c0, .int .i64 a1] rfl (by (try simp only [List.map_toArray, List.map_cons, List.map_nil]); first | done | rfl | (simp only [List.length_drop, List.length_take]; rfl)) ?_; (with_reducible refine (wire_Number.calls _ _ l0 a1 t125 t126 t127 _ ?side1 ?side2 A3.out).mono ?_); (case side1 => repeat (first | exact HR0.out | (with_reducible refine Kd.C_alloc ?_ _) | (with_reducible refine Kd.C_drewN ?_ _) | (with_reducible refine Kd.C_drew ?_))); (case side2 => exact HC0.out); rintro e w' ⟨rfl, ⟨nd, rfl⟩⟩; refine ⟨_, rfl, ?_⟩))
    go_ret3
    exact ⟨_, by first | rfl | (simp [errW_none, errW_some] <;> rfl) | (simp [*, errW_none, errW_some] <;> rfl), by first | exact Kd.R_nil _ _ _ _ _ | exact Kd.N_nil _ _ _ _ _ | exact Kd.V_nil _ _ _ _ _ | exact Kd.Q_nil _ _ _ _ _ | exact Kd.S_nil _ _ _ _ _, by repeat (first | (with_reducible first | exact HB.out | apply below_alloc | apply pw_below_drewN | apply below_drew1) | exact HB.out)⟩

end Go.Proofs.Ytanipbjbaalomaa.PWire
