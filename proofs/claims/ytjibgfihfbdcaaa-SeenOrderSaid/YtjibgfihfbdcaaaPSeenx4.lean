-- A text of this claim, written by this session's program. -- SLIM
import Derived.Test.YtjibgfihfbdcaaaPSeenx0
import Derived.Test.YtjibgfihfbdcaaaPSeenx2
import Derived.Test.YtjibgfihfbdcaaaPSeenx3
namespace Go.Proofs.Ytjibgfihfbdcaaa.PSeen
open Go.RowKit Go.Proofs.YtjibgfihfbdcaaaW.PrintWords Go.Proofs.YtjibgfihfbdcaaaW.PrintLast Go.Proofs.YtjibgfihfbdcaaaW.PrintMore
attribute [local go_sem] max2_int min2_int max_two min_two max_three min_three max_four min_four   -- for this text's walks alone
set_option linter.unusedVariables false
set_option linter.unusedSimpArgs false

/-! ### seen_find: function 27 (by hand) -/
/-- The binary search, as the library's text goes. -/
def bsL : Nat → List S45 → Int → Nat → Nat → Nat
 | 0, _, _, i, _ => i
 | m + 1, l, o, i, j => if i < j then (if wrap64 ((l.getD ((i + j) / 2) z45).f0 - o) < 0 then bsL m l o ((i + j) / 2 + 1) j else bsL m l o i ((i + j) / 2)) else i
theorem bsL_step {m : Nat} {l : List S45} {o : Int} {i j : Nat} (h : i < j) (hm : j - i ≤ m) : bsL m l o i j = (if wrap64 ((l.getD ((i + j) / 2) z45).f0 - o) < 0 then bsL (m - 1) l o ((i + j) / 2 + 1) j else bsL (m - 1) l o i ((i + j) / 2)) := by
 obtain ⟨m, rfl⟩ : ∃ q, m = q + 1 := ⟨m - 1, by omega⟩
 rw [bsL, if_pos h]
 rfl
theorem bsL_end {m : Nat} {l : List S45} {o : Int} {i j : Nat} (h : ¬ i < j) : bsL m l o i j = i := by
 cases m with
 | zero => rfl
 | succ m => rw [bsL, if_neg h]
theorem bsL_le : ∀ (m : Nat) (l : List S45) (o : Int) (i j n : Nat), i ≤ n → j ≤ n → bsL m l o i j ≤ n
 | 0, _, _, _, _, _, h, _ => h
 | m + 1, l, o, i, j, n, h, h2 => by
  rw [bsL]
  split
  ·split
   ·exact bsL_le m l o _ _ n (by omega) h2
   ·exact bsL_le m l o _ _ n h (by omega)
  ·exact h
def bsI (l : List S45) (o : Int) : Nat := bsL l.length l o 0 l.length
set_option maxHeartbeats 8000000 in
set_option maxRecDepth 100000 in
theorem seen_find_1.calls (s o : Int) (v : Value) (w : World) :
  Calls Try.prog 43 #[.agg #[.int .i64 s, v], .int .i64 o] w fun e w' => e = .returned (.int .i64 (wrap64 (s - o))) ∧ Below w.heap.size w w' := by
 have hu45 := Try.underlying45
 have HB := Aside0.mk (Below.refl w.heap.size w)
 go_enter Try.func43, Try.ntmps43
 go_wp2
 go_ret
 exact ⟨by first | rfl | (simp [go_sem]; done) | skip, by repeat (first | exact HB.out | apply below_alloc | apply pw_below_drewN | apply below_drew1)⟩
set_option maxHeartbeats 8000000 in
set_option maxRecDepth 100000 in
theorem seen_bs.calls (A0 : Option Addr) (c0 : Nat) (l0 : List S45) (o : Int) (w : World) (hr0 : Kd.C k45 w A0 l0.length l0) (hc0 : l0.length ≤ c0) (hm : l0.length ≤ 1000000000000) :
  Calls Try.prog 42 #[.slice A0 l0.length c0, .int .i64 o, .func (.func 43) #[] #[]] w fun e w' =>
   e = .returned (.tuple #[.int .i64 (bsI l0 o), .bool (decide (bsI l0 o < l0.length) && decide (wrap64 ((l0.getD (bsI l0 o) z45).f0 - o) = 0))]) ∧ Below w.heap.size w w' := by
 have hu45 := Try.underlying45
 have hu22 := Try.underlying22
 have hu77 := Try.underlying77
 have HR := Aside0.mk hr0
 have HB := Aside0.mk (Below.refl w.heap.size w)
 clear hr0
 go_enter Try.func42, Try.ntmps42
 go_wp2_with (fail)
 go_loopw [9, 10, 11] (fun v9 v10 v11 wr => ∃ i j m : Nat, v9 = .int .i64 i ∧ v10 = .int .i64 j ∧ i ≤ l0.length ∧ j ≤ l0.length ∧ Aside0 (j - i ≤ m) ∧ Aside0 (bsI l0 o = bsL m l0 o i j) ∧ Aside0 (Below w.heap.size w wr)) (fun v9 v10 _ _ => (intOf v10).toNat - (intOf v9).toNat)
 case atStart => exact ⟨0, l0.length, l0.length, rfl, rfl, by omega, by omega, ⟨by omega⟩, ⟨rfl⟩, HB⟩
 case round =>
  obtain ⟨i, j, m, rfl, rfl, hi, hj, HM, HI, HB⟩ := hrel
  by_cases hlt : i < j
  ·have hlti : (i : Int) < (j : Int) := by omega
   have HS := Aside0.mk (bsL_step (l := l0) (o := o) hlt HM.out)
   have e1 : wrap64 ((i : Int) + (j : Int)) = (i : Int) + (j : Int) := by unfold wrap64; omega
   have hln : (((i + j) / 2 : Nat) : Int) < (l0.length : Int) := by omega
   obtain ⟨ad, A1, c1, rfl, x0, x1, hl1, g1⟩ := at_T45 (Kd.C_below HR.out HB.out) (((i + j) / 2 : Nat) : Int) (by omega) hln
   simp only [Int.toNat_natCast] at x0 x1
   generalize hx : rd_T45 l0 (((i + j) / 2 : Nat) : Int) = x at x0 x1
   have HX := Aside0.mk (show l0.getD ((i + j) / 2) z45 = x by rw [← hx]; unfold rd_T45; rw [Int.toNat_natCast])
   clear hx hl1 g1
   go_wp2_with (fail)
   refine (seen_find_1.calls x.f0 o _ _).mono ?_
   rintro e w' ⟨rfl, hb⟩
   have HB2 := Aside0.mk (below_step HB.out hb)
   clear hb HB
   by_cases hc : wrap64 (x.f0 - o) < 0
   ·have HN : Aside0 (bsI l0 o = bsL (m - 1) l0 o ((i + j) / 2 + 1) j) := ⟨by rw [HI.out, HS.out, HX.out, if_pos hc]⟩
    have e2 : wrap64 ((((i + j) / 2 : Nat) : Int) + 1) = (((i + j) / 2 + 1 : Nat) : Int) := by unfold wrap64; omega
    go_wp2
    exact ⟨⟨(i + j) / 2 + 1, j, m - 1, by first | rfl | (simp; done) | go_num, rfl, by omega, hj, ⟨by have := HM.out; omega⟩, HN, HB2⟩, by simp [intOf]; omega⟩
   ·have HN : Aside0 (bsI l0 o = bsL (m - 1) l0 o i ((i + j) / 2)) := ⟨by rw [HI.out, HS.out, HX.out, if_neg hc]⟩
    go_wp2
    exact ⟨⟨i, (i + j) / 2, m - 1, rfl, by first | rfl | (simp; done) | go_num, hi, by omega, ⟨by have := HM.out; omega⟩, HN, HB2⟩, by simp [intOf]; omega⟩
  ·have HE : Aside0 (bsI l0 o = i) := ⟨by rw [HI.out, bsL_end hlt]⟩
   by_cases hil : i < l0.length
   ·have hili : (i : Int) < (l0.length : Int) := by omega
    obtain ⟨ad, A1, c1, rfl, x0, x1, hl1, g1⟩ := at_T45 (Kd.C_below HR.out HB.out) (i : Int) (by omega) hili
    simp only [Int.toNat_natCast] at x0 x1
    generalize hx : rd_T45 l0 (i : Int) = x at x0 x1
    have HX := Aside0.mk (show l0.getD i z45 = x by rw [← hx]; unfold rd_T45; rw [Int.toNat_natCast])
    clear hx hl1 g1
    go_wp2_with (fail)
    refine (seen_find_1.calls x.f0 o _ _).mono ?_
    rintro e w' ⟨rfl, hb⟩
    have HB2 := Aside0.mk (below_step HB.out hb)
    clear hb HB
    go_wp2
    go_ret2
    refine ⟨?_, HB2.out⟩
    rw [HE.out, HX.out, decide_eq_true hil, Bool.true_and]
    first | rfl | (simp; done) | skip
   ·have hili : ¬ (i : Int) < (l0.length : Int) := by omega
    go_wp2
    go_ret2
    refine ⟨?_, HB.out⟩
    rw [HE.out, decide_eq_false hil, Bool.false_and]
    first | rfl | (simp; done) | skip
def seen_find.f (l0 : List S45) (a1 : Int) : Option (Int × Bool) := if l0.length ≤ 1000000000000 then some ((bsI l0 a1 : Int), decide (bsI l0 a1 < l0.length) && decide (wrap64 ((l0.getD (bsI l0 a1) z45).f0 - a1) = 0)) else none
set_option maxHeartbeats 8000000 in
set_option maxRecDepth 100000 in
theorem seen_find.calls (A0 : Option Addr) (c0 : Nat) (l0 : List (S45)) (a1 : Int) (r1 : Int) (r2 : Bool) (w : World) (hr0 : Kd.C k45 w A0 l0.length l0) (hc0 : l0.length ≤ c0) (h : seen_find.f l0 a1 = some (r1, r2)) :
  Calls Try.prog 27 #[.slice A0 l0.length c0, .int .i64 a1] w fun e w' => e = .returned (.tuple #[.int .i64 r1, .bool r2]) ∧ Below w.heap.size w w' := by
 unfold seen_find.f at h
 by_cases hl : l0.length ≤ 1000000000000
 ·rw [if_pos hl] at h
  simp only [Option.some.injEq, Prod.mk.injEq] at h
  obtain ⟨rfl, rfl⟩ := h
  have HC := Aside0.mk (seen_bs.calls A0 c0 l0 a1 w hr0 hc0 hl)
  clear hr0
  go_enter Try.func27, Try.ntmps27
  go_wp2_with (fail)
  refine HC.out.mono ?_
  rintro e w' ⟨rfl, hb⟩
  have HB := Aside0.mk hb
  clear hb HC
  go_wp2
  go_ret2
  exact ⟨rfl, HB.out⟩
 ·rw [if_neg hl] at h; cases h

/-! ### seen_holds: function 30 (by hand) -/
def fdx (p : S47 → Bool) (l : List S47) : Int := if l.findIdx p < l.length then (l.findIdx p : Int) else -1
theorem fdx_step (p : S47 → Bool) (l : List S47) {i : Nat} (h : i < l.length) : i + (l.drop i).findIdx p = (if p (l.getD i z47) = true then i else (i + 1) + (l.drop (i + 1)).findIdx p) := by
 rw [List.drop_eq_getElem_cons h, List.findIdx_cons, List.getD_eq_getElem?_getD, List.getElem?_eq_getElem h]
 cases hp : p l[i] with
 | true => simp [hp]
 | false => simp [hp]; omega
set_option maxHeartbeats 8000000 in
set_option maxRecDepth 100000 in
theorem seen_ixf.calls (A0 : Option Addr) (c0 : Nat) (l0 : List S47) (p : S47 → Bool) (g : Nat) (lb : Array Value) (w : World) (hr0 : Kd.C k47 w A0 l0.length l0) (hc0 : l0.length ≤ c0)
  (eg : ∀ args w, (callFunc g args).run Try.prog w = .ok (.enter g args) w)
  (hp : ∀ (W : World) (x : S47), Below w.heap.size w W → Calls Try.prog g (#[.agg #[.int .i64 x.f0, .int .i64 x.f1]] ++ lb) W fun e w' => e = .returned (.bool (p x)) ∧ Below W.heap.size W w') :
  Calls Try.prog 31 #[.slice A0 l0.length c0, .func (.func g) #[] lb] w fun e w' => e = .returned (.int .i64 (fdx p l0)) ∧ Below w.heap.size w w' := by
 have hu47 := Try.underlying47
 have hu43 := Try.underlying43
 have hm := hr0.2.1
 have HR := Aside0.mk hr0
 have HB := Aside0.mk (Below.refl w.heap.size w)
 have HP := Aside0.mk hp
 clear hr0 hp
 go_enter Try.func31, Try.ntmps31
 go_wp2_with (fail)
 go_loopw [5, 8] (fun v5 v8 wr => ∃ i : Nat, v8 = .int .i64 i ∧ i ≤ l0.length ∧ Aside0 (l0.findIdx p = i + (l0.drop i).findIdx p) ∧ Aside0 (Below w.heap.size w wr)) (fun _ v8 _ => l0.length - (intOf v8).toNat)
 case atStart => exact ⟨0, rfl, by omega, ⟨by simp⟩, HB⟩
 case round =>
  obtain ⟨i, rfl, hi, HI, HB⟩ := hrel
  by_cases hlt : i < l0.length
  ·have hlti : (i : Int) < (l0.length : Int) := by omega
   obtain ⟨ad, rfl, x0, x1⟩ := at_T47 (Kd.C_below HR.out HB.out) (i : Int) (by omega) hlti
   simp only [Int.toNat_natCast] at x0 x1
   have HS := Aside0.mk (fdx_step p l0 hlt)
   generalize hx : rd_T47 l0 (i : Int) = x at x0 x1
   have HX := Aside0.mk (show l0.getD i z47 = x by rw [← hx]; unfold rd_T47; rw [Int.toNat_natCast])
   clear hx
   have HQ0 := Aside0.mk (HP.out wr x HB.out)
   obtain ⟨q, hq⟩ : ∃ q, p x = q := ⟨_, rfl⟩
   have HQ := Aside0.mk hq
   rw [hq] at HQ0
   clear hq
   cases q with
   | true =>
    have HN : Aside0 (fdx p l0 = (i : Int)) := ⟨by
     have h1 : l0.findIdx p = i := by rw [HI.out, HS.out, HX.out, if_pos HQ.out]
     unfold fdx
     rw [h1, if_pos hlt]⟩
    go_wp2_with (go_at_fn g; refine HQ0.out.mono ?_; rintro e w' ⟨rfl, hb⟩; have HBN := Aside0.mk (below_step HB.out hb); clear hb HB HQ0)
    go_ret
    exact ⟨by rw [HN.out]; rfl, HBN.out⟩
   | false =>
    have HN : Aside0 (l0.findIdx p = (i + 1) + (l0.drop (i + 1)).findIdx p) := ⟨by rw [HI.out, HS.out, HX.out, if_neg (by rw [HQ.out]; simp)]⟩
    go_wp2_with (go_at_fn g; refine HQ0.out.mono ?_; rintro e w' ⟨rfl, hb⟩; have HBN := Aside0.mk (below_step HB.out hb); clear hb HB HQ0)
    exact ⟨⟨i + 1, by go_num, by omega, HN, HBN⟩, by simp [intOf]; omega⟩
  ·have hi2 : i = l0.length := by omega
   subst hi2
   have HN : Aside0 (fdx p l0 = -1) := ⟨by
    have h1 : l0.findIdx p = l0.length := by rw [HI.out, List.drop_length]; simp
    unfold fdx
    rw [h1, if_neg (by omega)]⟩
   go_wp2
   go_ret
   exact ⟨by rw [HN.out]; rfl, HB.out⟩
set_option maxHeartbeats 8000000 in
set_option maxRecDepth 100000 in
theorem seen_cf.calls (A0 : Option Addr) (c0 : Nat) (l0 : List S47) (p : S47 → Bool) (g : Nat) (lb : Array Value) (w : World) (hr0 : Kd.C k47 w A0 l0.length l0) (hc0 : l0.length ≤ c0)
  (eg : ∀ args w, (callFunc g args).run Try.prog w = .ok (.enter g args) w)
  (hp : ∀ (W : World) (x : S47), Below w.heap.size w W → Calls Try.prog g (#[.agg #[.int .i64 x.f0, .int .i64 x.f1]] ++ lb) W fun e w' => e = .returned (.bool (p x)) ∧ Below W.heap.size W w') :
  Calls Try.prog 46 #[.slice A0 l0.length c0, .func (.func g) #[] lb] w fun e w' => e = .returned (.bool (decide (0 ≤ fdx p l0))) ∧ Below w.heap.size w w' := by
 have HX := Aside0.mk (seen_ixf.calls A0 c0 l0 p g lb w hr0 hc0 eg hp)
 clear hr0 hp eg
 go_enter Try.func46, Try.ntmps46
 go_wp2_with (fail)
 refine HX.out.mono ?_
 rintro e w' ⟨rfl, hb⟩
 have HB2 := Aside0.mk hb
 clear hb
 go_wp2
 go_ret
 exact ⟨rfl, HB2.out⟩
def inR (n : Int) (x : S47) : Bool := decide (x.f0 ≤ n ∧ n ≤ x.f1)
set_option maxHeartbeats 8000000 in
set_option maxRecDepth 100000 in
theorem seen_holds_1.calls (B : Nat) (n : Int) (x : S47) (W : World) (hc : W.cell? ⟨B, 0, none⟩ = some (.int .i64 n)) :
  Calls Try.prog 47 #[.agg #[.int .i64 x.f0, .int .i64 x.f1], .pointer (some ⟨B, 0, none⟩)] W fun e w' => e = .returned (.bool (inR n x)) ∧ Below W.heap.size W w' := by
 have hu47 := Try.underlying47
 obtain ⟨f0, f1⟩ := x
 unfold inR
 simp only
 obtain ⟨t1, ht⟩ : ∃ t1, decide (f0 ≤ n ∧ n ≤ f1) = t1 := ⟨_, rfl⟩
 have HT := Aside0.mk (seen_between.ev n f0 f1 t1 ht)
 rw [ht]
 clear ht
 have hc2 : (W.alloc (.cells #[.int .i64 f0, .int .i64 f1] 47)).cell? ⟨B, 0, none⟩ = some (.int .i64 n) := by rw [World.cell?_alloc_lt _ _ _ (World.block_lt_of_cell? W _ hc)]; exact hc
 have HBW := Aside0.mk (below_alloc (Below.refl W.heap.size W) (.cells #[.int .i64 f0, .int .i64 f1] 47))
 go_enter Try.func47, Try.ntmps47
 go_wp2_with (fail)
 refine (seen_between.calls n f0 f1 t1 _ HT.out).mono ?_
 rintro e w' ⟨rfl, ⟨nd, rfl⟩⟩
 go_wp2
 go_ret
 exact ⟨rfl, pw_below_drewN HBW.out _⟩
def seen_holds.f (l0 : List S47) (a1 : Int) : Option Bool := some (decide (0 ≤ fdx (inR a1) l0))
set_option maxHeartbeats 8000000 in
set_option maxRecDepth 100000 in
theorem seen_holds.calls (A0 : Option Addr) (c0 : Nat) (l0 : List (S47)) (a1 : Int) (r : Bool) (w : World) (hr0 : Kd.C k47 w A0 l0.length l0) (hc0 : l0.length ≤ c0) (h : seen_holds.f l0 a1 = some r) :
  Calls Try.prog 30 #[.slice A0 l0.length c0, .int .i64 a1] w fun e w' => e = .returned (.bool r) ∧ Below w.heap.size w w' := by
 obtain rfl := Option.some.inj h
 have HR := Aside0.mk hr0
 have HC := Aside0.mk hc0
 clear hr0 hc0 h
 have q0 : (w.alloc (.cells #[.int .i64 a1] 3)).cell? ⟨w.heap.size, 0, none⟩ = some (.int .i64 a1) := by simp [go_sem]
 have HBW := Aside0.mk (below_alloc (Below.refl w.heap.size w) (.cells #[.int .i64 a1] 3))
 have HX := Aside0.mk (seen_cf.calls A0 c0 l0 (inR a1) 47 #[.pointer (some ⟨w.heap.size, 0, none⟩)] (w.alloc (.cells #[.int .i64 a1] 3)) (Kd.C_below HR.out HBW.out) HC.out (enters_ Try.func47 rfl rfl)
  (fun W x hb => seen_holds_1.calls w.heap.size a1 x W ((hb.cell (World.block_lt_of_cell? _ _ q0)).trans q0)))
 clear q0
 go_enter Try.func30, Try.ntmps30
 go_wp2_with (fail)
 refine HX.out.mono ?_
 rintro e w' ⟨rfl, hb⟩
 have HB2 := Aside0.mk (below_step HBW.out hb)
 clear hb
 go_wp2
 go_ret
 exact ⟨rfl, HB2.out⟩

end Go.Proofs.Ytjibgfihfbdcaaa.PSeen
