/- The law SeenOrder, walked: whatever pairs of bytes are read, it returns true. -/
import Derived.Test.YtjibgfihfbdcaaaAddedWalk
import Derived.Test.YtjibgfihfbdcaaaXQ
namespace Go.Proofs.Ytjibgfihfbdcaaa.PSeen
open Go.RowKit Go.Proofs.YtjibgfihfbdcaaaW.PrintWords Go.Proofs.YtjibgfihfbdcaaaW.PrintLast Go.Proofs.YtjibgfihfbdcaaaW.PrintMore
set_option linter.unusedVariables false
set_option linter.unusedSimpArgs false
set_option maxHeartbeats 16000000 in
set_option maxRecDepth 100000 in
theorem order.calls (A0 : Option Addr) (c0 : Nat) (L : List (Int × Int)) (t : Int) (w : World) (hr0 : Kd.C k36 w A0 L.length L) (hc0 : L.length ≤ c0) (hb : ∀ x ∈ L, (0 ≤ x.1 ∧ x.1 ≤ 255) ∧ (0 ≤ x.2 ∧ x.2 ≤ 255)) (ht : 0 ≤ t ∧ t ≤ 255) :
    Calls Try.prog 5 #[.slice A0 L.length c0, .int .u8 t] w fun e w' => e = .returned (.bool true) ∧ Below w.heap.size w w' := by
  have hu36 := Try.underlying36
  have hu35 := Try.underlying35
  have HR := Aside0.mk hr0
  have HC := Aside0.mk hc0
  have HB := Aside0.mk (Below.refl w.heap.size w)
  have HBB := Aside0.mk hb
  have hmL := hr0.2.1
  obtain ⟨ht0, ht1⟩ := ht
  clear hr0 hb
  go_enter Try.func5, Try.ntmps5
  go_wp2_with (fail)
  refine (slotmeshlaw26_head.calls 200000 true _ (Pl.head_cl (by omega))).mono ?_
  rintro e w1 ⟨rfl, hb1⟩
  have HB1 := Aside0.mk hb1
  clear hb1
  by_cases hz : (L.length : Int) = 0
  · have b1 : ((L.length : Int) == 0) = true := beq_iff_eq.2 hz
    have b2 : decide ((L.length : Int) = 0) = true := decide_eq_true hz
    clear hz
    go_wp2
    go_ret
    exact ⟨rfl, HB1.out⟩
  by_cases hg : (60 : Int) < (L.length : Int)
  · have b1 : ((L.length : Int) == 0) = false := beq_eq_false_iff_ne.2 hz
    have b2 : decide ((60 : Int) < (L.length : Int)) = true := decide_eq_true hg
    clear hz hg
    go_wp2
    go_ret
    exact ⟨rfl, HB1.out⟩
  have b1 : ((L.length : Int) == 0) = false := beq_eq_false_iff_ne.2 hz
  have b2 : decide ((60 : Int) < (L.length : Int)) = false := decide_eq_false hg
  have hp : 0 < L.length := by omega
  have hle : L.length ≤ 60 := by omega
  clear hz hg hmL
  go_wp2_with (fail)
  obtain ⟨k, hk⟩ : ∃ k : Nat, t % (L.length : Int) = (k : Int) := ⟨(t % (L.length : Int)).toNat, (Int.toNat_of_nonneg (Int.emod_nonneg _ (by omega))).symm⟩
  have hkl : k < L.length := by have := Int.emod_lt_of_pos t (show (0 : Int) < (L.length : Int) by omega); omega
  rw [hk]
  clear hk
  obtain ⟨ad, e0, _, _⟩ := at_T36 HR.out hkl hkl
  subst e0
  have hck : ¬ c0 = k := by omega
  have k0 : (0 : Int) ≤ (k : Int) := by omega
  have k1 : (k : Int) ≤ (L.length : Int) := by omega
  have k2 : k ≤ L.length := by omega
  have k4 : k ≤ c0 := by omega
  have k3 : (L.length : Int) ≤ (c0 : Int) := by omega
  have hF := Kd.F_below (Kd.C_F k36_heap HR.out) HB1.out
  have HFD : Aside0 (Kd.F k36 w1.drew (fun k => k < w.heap.size) (some (ad.add (k * 2))) (L.length - k) (L.drop k)) := ⟨by
    have h1 := Kd.F_drew (Kd.F_cut hF (m := k) (c := c0) (by omega) hc0)
    rw [if_neg hck, List.length_drop] at h1
    exact h1⟩
  have HFT : Aside0 (Kd.F k36 w1.drew (fun k => k < w.heap.size) (some ad) k (L.take k)) := ⟨by
    have h1 := Kd.F_drew (Kd.F_take hF (m := k) (by omega))
    rw [List.length_take, Nat.min_eq_left (by omega)] at h1
    exact h1⟩
  have HSZ : Aside0 (w.heap.size ≤ w1.drew.heap.size) := ⟨HB1.out.size⟩
  have HBW : Aside0 (Below w.heap.size w w1.drew) := ⟨below_drew1 HB1.out⟩
  clear hF HB1
  refine start_ (n := 10) (S := (fun _ => True)) (ds := []) #[false, false, false, false, false, false, false, false, false, false] (by kernel_rfl) rfl rfl trivial (fun hHeld => ?_)
  generalize w1.drew = W0 at HFD HFT HSZ HBW hHeld ⊢
  refine pure_ (i := 1) (N := some 32) (v := ?_) (a' := ?_) #[false, true, false, false, false, false, false, false, false, false] rfl rfl (by kernel_rfl) (fun _ _ _ h => h) (Or.inl ⟨by rfl, ?_⟩) ?_ ?_
  rotate_left
  · intro w'
    go_simp
    with_reducible rfl
  rotate_left
  · simp only [Act.put, List.setIfInBounds_toArray, List.set_cons_zero, List.set_cons_succ, i64_w, i32_w]
    rfl
  refine pure_ (i := 2) (N := some 33) (v := ?_) (a' := ?_) #[false, true, true, false, false, false, false, false, false, false] rfl rfl (by kernel_rfl) (fun _ _ _ h => h) (Or.inl ⟨by rfl, ?_⟩) ?_ ?_
  rotate_left
  · intro w'
    go_simp
    with_reducible rfl
  rotate_left
  · simp only [Act.put, List.setIfInBounds_toArray, List.set_cons_zero, List.set_cons_succ, i64_w, i32_w]
    rfl
  refine pure_ (i := 3) (N := some 34) (v := ?_) (a' := ?_) #[false, true, true, true, false, false, false, false, false, false] rfl rfl (by kernel_rfl) (fun _ _ _ h => h) (Or.inl ⟨by rfl, ?_⟩) ?_ ?_
  rotate_left
  · intro w'
    go_simp
    with_reducible rfl
  rotate_left
  · simp only [Act.put, List.setIfInBounds_toArray, List.set_cons_zero, List.set_cons_succ, i64_w, i32_w]
    rfl
  refine pure_ (i := 5) (N := some 36) (v := ?_) (a' := ?_) #[false, true, true, true, false, true, false, false, false, false] rfl rfl (by kernel_rfl) (fun _ _ _ h => h) (Or.inl ⟨by rfl, ?_⟩) ?_ ?_
  rotate_left
  · intro w'
    go_simp
    with_reducible rfl
  rotate_left
  · simp only [Act.put, List.setIfInBounds_toArray, List.set_cons_zero, List.set_cons_succ, i64_w, i32_w]
    rfl
  refine pure_ (i := 6) (N := some 37) (v := ?_) (a' := ?_) #[false, true, true, true, false, true, true, false, false, false] rfl rfl (by kernel_rfl) (fun _ _ _ h => h) (Or.inl ⟨by rfl, ?_⟩) ?_ ?_
  rotate_left
  · intro w'
    go_simp
    with_reducible rfl
  rotate_left
  · simp only [Act.put, List.setIfInBounds_toArray, List.set_cons_zero, List.set_cons_succ, i64_w, i32_w]
    rfl
  refine pure_ (i := 7) (N := some 38) (v := ?_) (a' := ?_) #[false, true, true, true, false, true, true, true, false, false] rfl rfl (by kernel_rfl) (fun _ _ _ h => h) (Or.inl ⟨by rfl, ?_⟩) ?_ ?_
  rotate_left
  · intro w'
    go_simp
    with_reducible rfl
  rotate_left
  · simp only [Act.put, List.setIfInBounds_toArray, List.set_cons_zero, List.set_cons_succ, i64_w, i32_w]
    rfl
  refine one_ (i := 0) (N := some 31) #[true, true, true, true, false, true, true, true, false, false] rfl rfl (by kernel_rfl) (by decide) (fun K hK => ?_)
  refine yield_ (v := .slice (some ⟨W0.heap.size, 0, none⟩) 0 0) (w1 := W0.alloc (.cells #[] 36)) (by rfl) rfl ?_ ?_
  · go_simp
  refine hK.out _ _ trivial (fun hHeld => ?_)
  clear hK K
  have HE := Aside0.mk (Kd.R_N (Kd.R_empty k36 36 W0 (base := W0.heap.size) (ok := fun _ => True) (Nat.le_refl _) trivial))
  have HBE := Aside0.mk (below_alloc (Below.refl W0.heap.size W0) (.cells #[] 36))
  generalize W0.alloc (.cells #[] 36) = W1 at HE HBE ⊢
  refine norm_ (a' := ?_) ?_ ?_
  rotate_left
  · simp only [Act.put, List.setIfInBounds_toArray, List.set_cons_zero, List.set_cons_succ, i64_w, i32_w]
    rfl
  refine one_ (i := 4) (N := some 35) #[true, true, true, true, true, true, true, true, false, false] rfl rfl (by kernel_rfl) (by decide) (fun K hK => ?_)
  refine Kd.N_append_rows_step k36 (w0 := W0) W0.heap.size (by rfl) (.tmp 31) (.tmp 34) 35 36 (Value.agg #[.int .u8 0, .int .u8 0]) 2 rfl Try.underlying35 info36 rfl (by decide) (by omega) (.slice (some ⟨W0.heap.size, 0, none⟩) 0 0) ([] : List (Int × Int)) (L.drop k) (some (ad.add (k * 2))) (L.length - k) (c0 - k) (fun _ => True) (fun k => k < w.heap.size) rfl rfl HE.out (Kd.F_below HFD.out HBE.out) (fun k hk => ⟨trivial, fun he => by have h9 : k = W0.heap.size := Option.some.inj he; have := HSZ.out; omega⟩) (fun _ _ => trivial) HBE.out HBE.out.size (by simp; omega) ?_
  intro v35 W2 hN2 hb2 _ _
  refine hK.out _ _ trivial (fun hHeld => ?_)
  clear hK K
  have HN2 := Aside0.mk hN2
  have HB2 := Aside0.mk hb2
  have HO2 := Aside0.mk (Kd.N_base hN2)
  clear hN2 hb2 HE HBE
  refine norm_ (a' := ?_) ?_ ?_
  rotate_left
  · simp only [Act.put, List.setIfInBounds_toArray, List.set_cons_zero, List.set_cons_succ, i64_w, i32_w]
    rfl
  refine one_ (i := 8) (N := some 39) #[true, true, true, true, true, true, true, true, true, false] rfl rfl (by kernel_rfl) (by decide) (fun K hK => ?_)
  refine Kd.N_append_rows_step k36 (w0 := W0) W0.heap.size (by rfl) (.tmp 35) (.tmp 38) 35 36 (Value.agg #[.int .u8 0, .int .u8 0]) 2 rfl Try.underlying35 info36 rfl (by decide) (by omega) v35 ([] ++ L.drop k) (L.take k) (some ad) k c0 (fun _ => True) (fun k => k < w.heap.size) rfl rfl HN2.out (Kd.F_below HFT.out HB2.out) (fun k hk => ⟨trivial, fun he => by have := HO2.out _ he.symm; have := HSZ.out; omega⟩) (fun _ _ => trivial) HB2.out HB2.out.size (by simp; omega) ?_
  intro v39 W3 hN3 hb3 _ _
  refine hK.out _ _ trivial (fun hHeld => ?_)
  clear hK K
  have HN3 := Aside0.mk hN3
  have HB3 := Aside0.mk hb3
  clear hN3 hb3 HN2 HB2 HO2
  refine norm_ (a' := ?_) ?_ ?_
  rotate_left
  · simp only [Act.put, List.setIfInBounds_toArray, List.set_cons_zero, List.set_cons_succ, i64_w, i32_w]
    rfl
  refine pure_ (i := 9) (N := some 7) (v := ?_) (a' := ?_) #[true, true, true, true, true, true, true, true, true, true] rfl rfl (by kernel_rfl) (fun _ _ _ h => h) (Or.inl ⟨by rfl, ?_⟩) ?_ ?_
  rotate_left
  · intro w'
    go_simp
    with_reducible rfl
  rotate_left
  · simp only [Act.put, List.setIfInBounds_toArray, List.set_cons_zero, List.set_cons_succ, i64_w, i32_w]
    rfl
  refine done_ (by kernel_rfl) ?_
  have hTl : ([] ++ L.drop k ++ L.take k).length = L.length := by simp; omega
  have hTm : ∀ x, x ∈ [] ++ L.drop k ++ L.take k ↔ x ∈ L := fun x => by
    rw [List.nil_append, List.mem_append, or_comm, ← List.mem_append, List.take_append_drop]
  obtain ⟨T, hT⟩ : ∃ T, [] ++ L.drop k ++ L.take k = T := ⟨_, rfl⟩
  rw [hT] at HN3 hTl hTm
  have HTM := Aside0.mk hTm
  have HTL := Aside0.mk hTl
  have HW3 := Aside0.mk (below_step HBW.out HB3.out)
  have HN4 := Aside0.mk (Kd.N_bound HN3.out)
  have HO3 := Aside0.mk (Kd.N_lt HN3.out)
  have HW0 := Aside0.mk (Nat.le_trans HSZ.out HB3.out.size)
  have HW03 := Aside0.mk HB3.out.size
  clear hT hTl hTm HN3 HFD HFT HBW HB3 hHeld
  have hmm : (L.length : Int) ≤ 60 := by omega
  go_wp2_with (fail)
  go_loopw [8, 9] (fun v8 v9 wr => ∃ (j : Nat) (vb : Value), vb = v8 ∧ j ≤ L.length ∧ v9 = .int .i64 ((L.length : Int) - 1 - j) ∧ Aside0 (Kd.N k36 36 wr W3.heap.size (fun k => W3.heap.size ≤ k) vb (L.reverse.take j)) ∧ Aside0 (Below W3.heap.size W3 wr)) (fun _ v9 _ => (intOf v9 + 1).toNat)
  case atStart => exact ⟨0, _, rfl, by omega, by simp, ⟨by rw [List.take_zero]; exact Kd.N_nil _ _ _ _ _⟩, ⟨Below.refl _ _⟩⟩
  case round =>
    obtain ⟨j, vb, rfl, hj, rfl, HN, HX⟩ := hrel
    by_cases hlt : j < L.length
    · obtain ⟨q, hq⟩ : ∃ q : Nat, (L.length : Int) - 1 - j = (q : Int) := ⟨L.length - 1 - j, by omega⟩
      have hql : q < L.length := by omega
      have HQ := Aside0.mk hq
      rw [hq]
      have hqi : (q : Int) < (L.length : Int) := by omega
      have hq0 : (0 : Int) ≤ (q : Int) := by omega
      obtain ⟨_, e1, x0, x1⟩ := at_T36 (Kd.C_below HR.out (below_step HW3.out HX.out)) hql hql
      cases e1
      have hrev : L.reverse.take (j + 1) = L.reverse.take j ++ [L[q]] := by
        have hjr : j < L.reverse.length := by rw [List.length_reverse]; exact hlt
        rw [List.take_succ_eq_append_getElem hjr, List.getElem_reverse]
        congr 3
        omega
      have HRV := Aside0.mk hrev
      have hlen : (L.reverse.take j).length = j := by rw [List.length_take, List.length_reverse]; omega
      obtain ⟨Y, hY⟩ : ∃ Y, L.reverse.take j = Y := ⟨_, rfl⟩
      rw [hY] at HN HRV hlen
      have HLY := Aside0.mk hlen
      obtain ⟨x, hx⟩ : ∃ x, L[q] = x := ⟨_, rfl⟩
      rw [hx] at x0 x1 HRV
      obtain ⟨xa, xb⟩ := x
      simp only at x0 x1
      have HLT := Aside0.mk hlt
      clear hq hrev hlen hY hx hlt
      go_wp2_with (first | ((with_reducible refine gate_builtin (b := .append) (xs := #[.tmp 47, .tmp 52]) rfl ?_); at_builtin; refine Kd.N_append k36 (w0 := W3) W3.heap.size rfl (.tmp 47) (.tmp 52) 35 36 (Value.agg #[.int .u8 0, .int .u8 0]) 2 rfl Try.underlying35 info36 rfl (by decide) (by omega) vb Y (xa, xb) [.int .u8 xa, .int .u8 xb] (fun k => W3.heap.size ≤ k) (fun _ => False) rfl rfl (k36_mkF _ _ (xa, xb)) (fun _ hk => hk.elim) ?aF HN.out HX.out HX.out.size ?aL ?_; (case aF => exact fun k hk => Nat.le_trans HX.out.size hk); (case aL => have := HLY.out; omega); intro v53 w5 hn hb hg hat; have HN5 := Aside0.mk hn; have HX5 := Aside0.mk hb; clear hn hb hg hat))
      go_roundw
      case rel => exact ⟨j + 1, _, rfl, HLT.out, by have := HQ.out; congr 1; omega, by rw [HRV.out]; exact HN5, HX5⟩
      case measure => simp [intOf]
    · have hj2 : j = L.length := by omega
      subst hj2
      have hge : ¬ ((0 : Int) ≤ (L.length : Int) - 1 - (L.length : Int)) := by omega
      have hgb : decide ((0 : Int) ≤ (L.length : Int) - 1 - (L.length : Int)) = false := decide_eq_false hge
      rw [List.take_of_length_le (by rw [List.length_reverse]; omega)] at HN
      obtain ⟨W4, rfl⟩ : ∃ W4 : World, W4 = wr := ⟨_, rfl⟩
      have HW4 := Aside0.mk (below_step HW3.out HX.out)
      have HS4 := Aside0.mk HX.out.size
      have HT4 := Aside0.mk (Kd.N_below HN4.out HX.out)
      go_wp2_with (fail)
      refine (added.calls (some ad) c0 L _ (Kd.C_below HR.out HW4.out) HC.out (by omega) HBB.out).mono ?_
      rintro e W5 ⟨v10, rfl, hv10, hb5⟩
      have HW5 := Aside0.mk (below_step HW4.out hb5)
      have HS5 := Aside0.mk hb5.size
      have HV5 := Aside0.mk hv10
      have HT5 : Aside0 (Kd.N k36 36 W5 W0.heap.size (fun _ => True) v39 T) := ⟨Kd.N_mono (Kd.N_below HT4.out hb5) (fun _ _ => trivial)⟩
      have HN5 := Aside0.mk (Kd.N_below HN.out hb5)
      clear hb5 hv10 HN HT4 HX HN4
      obtain ⟨_, e1, x0, x1⟩ := at_T36 (Kd.C_below HR.out HW5.out) hkl hkl
      cases e1
      have hmemk : L[k] ∈ L := List.getElem_mem hkl
      obtain ⟨x, hx⟩ : ∃ x, L[k] = x := ⟨_, rfl⟩
      rw [hx] at x0 x1 hmemk
      have HMK := Aside0.mk hmemk
      obtain ⟨xa, xb⟩ := x
      simp only at x0 x1
      clear hx hmemk
      go_wp2_with (first | ((with_reducible refine gate_builtin (b := .append) (xs := #[.tmp 60, .tmp 65]) rfl ?_); at_builtin; refine Kd.N_append k36 (w0 := W5) W0.heap.size rfl (.tmp 60) (.tmp 65) 35 36 (Value.agg #[.int .u8 0, .int .u8 0]) 2 rfl Try.underlying35 info36 rfl (by decide) (by omega) v39 T (xa, xb) [.int .u8 xa, .int .u8 xb] (fun _ => True) (fun _ => False) rfl rfl (k36_mkF _ _ (xa, xb)) (fun _ hk => hk.elim) (fun _ _ => trivial) HT5.out ?aB ?aS ?aL ?_; (case aB => exact Below.refl _ _); (case aS => exact Nat.le_trans HW03.out (Nat.le_trans HS4.out HS5.out)); (case aL => have := HTL.out; omega); intro v66 w6 hn hb hg hat; have HN6 := Aside0.mk hn; have HB6 := Aside0.mk hb; have HG6 := Aside0.mk hg; clear hn hb hg hat))
      have HW6 : Aside0 (Below w.heap.size w w6) := ⟨Below.trans HW5.out (HB6.out.mono HSZ.out)⟩
      have HV6 := Aside0.mk (Kd.V_grown HV5.out HG6.out (fun k hk he => by have h1 := HO3.out k he.symm; have h2 := HS4.out; omega))
      have HK6 := Aside0.mk (Kd.N_grown HN5.out HG6.out (fun k hk he => by have h1 := HO3.out k he.symm; omega))
      obtain ⟨A6, c6, rfl, hl6, hC6⟩ := Kd.N_reads HN6.out
      have HC6 := Aside0.mk hC6
      have HL6 := Aside0.mk hl6
      have HE6 : Aside0 (Pl.ordL (T ++ [(xa, xb)]) = Pl.ordL L) := ⟨Pl.ord_same (fun x => by
        rw [List.mem_append, HTM.out, List.mem_singleton]
        exact ⟨fun h => h.elim id (fun h => by rw [h]; exact HMK.out), .inl⟩)⟩
      have HB6b : Aside0 (∀ x ∈ T ++ [(xa, xb)], (0 ≤ x.1 ∧ x.1 ≤ 255) ∧ (0 ≤ x.2 ∧ x.2 ≤ 255)) := ⟨fun x hx => by
        rcases List.mem_append.1 hx with h | h
        · exact HBB.out x ((HTM.out x).1 h)
        · rw [List.mem_singleton.1 h]; exact HBB.out _ HMK.out⟩
      have HLT6 : Aside0 ((T ++ [(xa, xb)]).length ≤ 64) := ⟨by have := HTL.out; simp; omega⟩
      clear hl6 hC6 HV5 HN5 HT5 HG6 HB6
      obtain ⟨TX, hTX⟩ : ∃ TX, T ++ [(xa, xb)] = TX := ⟨_, rfl⟩
      rw [hTX] at HC6 HL6 HE6 HB6b HLT6 ⊢
      refine (added.calls A6 c6 TX _ HC6.out HL6.out HLT6.out HB6b.out).mono ?_
      rintro e W7 ⟨v12, rfl, hv12, hb7⟩
      rw [HE6.out] at hv12
      have HW7 := Aside0.mk (below_step HW6.out hb7)
      have HV7 := Aside0.mk (Kd.V_below HV6.out hb7)
      have HU7 := Aside0.mk hv12
      have HK7 := Aside0.mk (Kd.N_below HK6.out hb7)
      clear hb7 hv12 HV6 HK6 HC6 HL6 hTX
      obtain ⟨A9, c9, rfl, hl9, hC9⟩ := Kd.N_reads HK7.out
      have HC9 := Aside0.mk hC9
      have HL9 := Aside0.mk hl9
      have HE9 : Aside0 (Pl.ordL L.reverse = Pl.ordL L) := ⟨Pl.ord_same (fun x => List.mem_reverse)⟩
      have HB9 : Aside0 (∀ x ∈ L.reverse, (0 ≤ x.1 ∧ x.1 ≤ 255) ∧ (0 ≤ x.2 ∧ x.2 ≤ 255)) := ⟨fun x hx => HBB.out x (List.mem_reverse.1 hx)⟩
      have HLR : Aside0 (L.reverse.length ≤ 64) := ⟨by rw [List.length_reverse]; omega⟩
      obtain ⟨LR, hLR⟩ : ∃ LR, L.reverse = LR := ⟨_, rfl⟩
      rw [hLR] at HC9 HL9 HE9 HB9 HLR ⊢
      clear hl9 hC9 HK7 hLR
      go_wp2_with (fail)
      refine (added.calls A9 c9 LR _ HC9.out HL9.out HLR.out HB9.out).mono ?_
      rintro e W8 ⟨v14, rfl, hv14, hb8⟩
      rw [HE9.out] at hv14
      have HW8 := Aside0.mk (below_step HW7.out hb8)
      have HV8 := Aside0.mk (Kd.V_below HV7.out hb8)
      have HU8 := Aside0.mk (Kd.V_below HU7.out hb8)
      have HX8 := Aside0.mk hv14
      clear hb8 hv14 HV7 HU7 HC9 HL9
      have HOL := Aside0.mk (Pl.ordL_all L (by omega))
      obtain ⟨M, hM⟩ : ∃ M, Pl.ordL L = M := ⟨_, rfl⟩
      rw [hM] at HV8 HU8 HX8 HOL
      have HSM := Aside0.mk (Pl.same_cl (l := M) (k := 200000) (by have := HOL.out; omega) (by have := HOL.out; omega) (by have := HOL.out; omega))
      obtain ⟨Aa, ca, rfl⟩ := Kd.V_slice HV8.out
      obtain ⟨Ab, cb, rfl⟩ := Kd.V_slice HU8.out
      obtain ⟨Ac, cc, rfl⟩ := Kd.V_slice HX8.out
      have HVa := Aside0.mk (Kd.V_reads' HV8.out)
      have HVb := Aside0.mk (Kd.V_reads' HU8.out)
      have HVc := Aside0.mk (Kd.V_reads' HX8.out)
      clear hM HV8 HU8 HX8
      go_wp2_with (fail)
      refine (slotmeshref26_Same.calls 200000 Aa ca M Ab cb M true _ HVa.out.2.2 HVa.out.2.1 HVb.out.2.2 HVb.out.2.1 HSM.out).mono ?_
      rintro e W9 ⟨rfl, ⟨n9, rfl⟩⟩
      go_wp2_with (fail)
      refine (slotmeshref26_Same.calls 200000 Aa ca M Ac cc M true _ (Kd.C_below HVa.out.2.2 (pw_below_drewN (Below.refl _ _) n9)) HVa.out.2.1 (Kd.C_below HVc.out.2.2 (pw_below_drewN (Below.refl _ _) n9)) HVc.out.2.1 HSM.out).mono ?_
      rintro e W9 ⟨rfl, ⟨n10, rfl⟩⟩
      go_wp2
      go_ret
      exact ⟨rfl, pw_below_drewN HW8.out _⟩
end Go.Proofs.Ytjibgfihfbdcaaa.PSeen
