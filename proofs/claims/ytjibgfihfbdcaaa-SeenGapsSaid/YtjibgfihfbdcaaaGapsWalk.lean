/- The law SeenGaps, walked: whatever lists are read, it returns true. -/
import Derived.Test.YtjibgfihfbdcaaaPSeenx9
import Derived.Test.YtjibgfihfbdcaaaPSeenx8
import Derived.Test.YtjibgfihfbdcaaaSeenGapsPl2
import Derived.Test.YtjibgfihfbdcaaaPSeenx1
namespace Go.Proofs.Ytjibgfihfbdcaaa.PSeen
open Go.RowKit Go.Proofs.YtjibgfihfbdcaaaW.PrintWords Go.Proofs.YtjibgfihfbdcaaaW.PrintLast Go.Proofs.YtjibgfihfbdcaaaW.PrintMore
set_option linter.unusedVariables false
set_option linter.unusedSimpArgs false
attribute [local go_sem high] eqA47
/-- The greatest number, found among the first lists. -/
def grN (l : List S45) (o : Int) (i : Nat) : Int := if (l.take i).any (fun s => decide (s.f0 = o)) = true then Pl.topR 0 (Pl.OfL l o) else 0
theorem grN_hit {l : List S45} {o : Int} {i : Nat} (h : i < l.length) (he : l[i].f0 = o) : grN l o (i + 1) = Pl.topR 0 (Pl.OfL l o) := by
  unfold grN
  rw [if_pos]
  rw [List.take_succ_eq_append_getElem h, List.any_append]
  simp [he]
theorem grN_miss {l : List S45} {o : Int} {i : Nat} (h : i < l.length) (he : l[i].f0 ≠ o) : grN l o (i + 1) = grN l o i := by
  unfold grN
  rw [List.take_succ_eq_append_getElem h, List.any_append]
  simp [he]
theorem grN_end {l : List S45} {o : Int} : grN l o l.length = Pl.topR 0 (Pl.OfL l o) := by
  unfold grN
  rw [List.take_length]
  split
  · rfl
  · rename_i h
    rw [Pl.OfL_none (l := l) (o := o) (fun i hi he => h (List.any_eq_true.2 ⟨l[i], List.getElem_mem hi, by simpa using he⟩))]
    rfl
theorem top_last : ∀ {X : List S47} {b : Int} (h : 0 < X.length), Pl.topR b X = (X[X.length - 1]'(by omega)).f1
  | [x], b, h => rfl
  | x :: y :: ys, b, h => by
    rw [Pl.topR, top_last (X := y :: ys) (by simp)]
    rfl
set_option maxHeartbeats 16000000 in
set_option maxRecDepth 100000 in
theorem gaps.calls (A0 : Option Addr) (c0 : Nat) (l0 : List S45) (a1 : Int) (w : World) (hr0 : Kd.C k45 w A0 l0.length l0) (hc0 : l0.length ≤ c0) (hRe : Pl.Reach l0) (ho : -9223372036854775808 ≤ a1 ∧ a1 ≤ 9223372036854775807) :
    Calls Try.prog 7 #[.slice A0 l0.length c0, .int .i64 a1] w fun e w' => e = .returned (.bool true) ∧ Below w.heap.size w w' := by
  have hu45 := Try.underlying45
  have hu47 := Try.underlying47
  have hu22 := Try.underlying22
  have HR := Aside0.mk hr0
  have HC := Aside0.mk hc0
  have HO := Aside0.mk ho
  have HB := Aside0.mk (Below.refl w.heap.size w)
  have HF := Aside0.mk (Pl.few_cl (l := l0) (k := 200000) (by omega) hRe)
  clear hr0 hRe ho
  go_enter Try.func7, Try.ntmps7
  go_wp2_with (fail)
  refine (slotmeshlaw26_head.calls 200000 true _ (Pl.head_cl (by omega))).mono ?_
  rintro e w1 ⟨rfl, hb1⟩
  have HB1 := Aside0.mk hb1
  clear hb1
  go_wp2_with (fail)
  refine (slotmeshref26_Few.calls 200000 A0 c0 l0 _ _ (Kd.C_below HR.out HB1.out) HC.out HF.out).mono ?_
  rintro e w2 ⟨rfl, ⟨n2, rfl⟩⟩
  have HB2 := Aside0.mk (pw_below_drewN HB1.out n2)
  generalize w1.drewN n2 = w2 at HB2 ⊢
  clear HB1 HF
  obtain ⟨fb, hfb⟩ : ∃ fb, Pl.fewB l0 = fb := ⟨_, rfl⟩
  rw [hfb]
  cases fb with
  | false =>
    clear hfb
    go_wp2
    go_ret
    exact ⟨rfl, HB2.out⟩
  | true =>
    have HL := Aside0.mk (Pl.few_yes hfb)
    clear hfb
    go_wp2_with (fail)
    have hvv := Pl.rvalid_cl (l := l0) (k := 200000) (by have := HL.out; omega) (by have := HL.out; omega) (by have := HL.out; omega)
    refine (slotmeshref26_Valid.calls 200000 A0 c0 l0 _ _ (Kd.C_below HR.out HB2.out) HC.out hvv).mono ?_
    rintro e w3 ⟨rfl, hb3⟩
    have HB3 := Aside0.mk (below_step HB2.out hb3)
    clear hb3 HB2 hvv
    obtain ⟨vb, hvb⟩ : ∃ vb, Pl.okV l0 = vb := ⟨_, rfl⟩
    rw [hvb]
    cases vb with
    | false =>
      clear hvb
      go_wp2
      go_ret
      exact ⟨rfl, HB3.out⟩
    | true =>
      have HV := Aside0.mk hvb
      clear hvb
      go_wp2_with (fail)
      have hms := Pl.missing_cl (l := l0) (o := a1) (most := 200) (k := 200000) (by have := HL.out; have : (200 : Int).toNat = 200 := rfl; omega) (by have := HL.out; omega) (by have := HL.out; omega) HO.out (by omega)
      refine (seen_Missing.calls 200000 A0 c0 l0 a1 200 _ _ (Kd.C_below HR.out HB3.out) HC.out hms).mono ?_
      rintro e w4 ⟨v6, rfl, hR4, hb4⟩
      have HB4 := Aside0.mk (below_step HB3.out hb4)
      clear hb4 HB3 hms
      obtain ⟨A6, c6, hl6⟩ := Kd.R_slice hR4
      subst hl6
      obtain ⟨G, hG⟩ : ∃ G, Pl.missR l0 a1 200 = G := ⟨_, rfl⟩
      rw [hG] at hR4
      rw [hG]
      have HG := Aside0.mk hG
      have HR6 := Aside0.mk (Kd.R_reads' hR4)
      clear hG hR4
      go_wp2_with (fail)
      have hm := HL.out.1
      go_loopw [8, 10, 35] (fun v8 v10 v35 wr => ∃ i : Nat, v35 = .int .i64 i ∧ i ≤ l0.length ∧ v8 = .int .i64 (grN l0 a1 i) ∧ Aside0 (Below w4.heap.size w4 wr)) (fun _ _ v35 _ => l0.length - (intOf v35).toNat)
      case atStart => exact ⟨0, rfl, by omega, by simp [grN], ⟨Below.refl _ _⟩⟩
      case round =>
        obtain ⟨i, rfl, hi, rfl, HX⟩ := hrel
        have HX2 := Aside0.mk (below_step HB4.out HX.out)
        by_cases hlt : i < l0.length
        · have hlti : (i : Int) < (l0.length : Int) := by omega
          obtain ⟨ad, A1, c1, rfl, x0, x1, hl1, g1⟩ := at_T45 (Kd.C_below HR.out HX2.out) (i : Int) (by omega) hlti
          simp only [Int.toNat_natCast] at x0 x1
          rw [Pl.rd45 hlt] at x0 x1 hl1 g1
          obtain ⟨x, hx⟩ : ∃ x, l0[i] = x := ⟨_, rfl⟩
          rw [hx] at x0 x1 hl1 g1
          have HXE := Aside0.mk hx
          have G1 := Aside0.mk g1
          have L1 := Aside0.mk hl1
          clear hx hl1 g1
          by_cases hq : x.f0 = a1
          · have hW := (Pl.okV_len HV.out).2.2
            have hof : x.f1 = Pl.OfL l0 a1 := by
              have h1 := Pl.OfL_at hW i hlt
              rw [HXE.out, hq] at h1
              exact h1.symm
            have hne : 0 < x.f1.length := List.length_pos_iff.2 (by
              have h1 := Pl.no_at.WS_ne hW i hlt
              rw [HXE.out] at h1
              exact h1)
            have HT := Aside0.mk (show Pl.topR 0 (Pl.OfL l0 a1) = (rd_T47 x.f1 ((x.f1.length : Int) - 1)).f1 by
              rw [← hof, top_last hne, show (x.f1.length : Int) - 1 = ((x.f1.length - 1 : Nat) : Int) by omega, Pl.rd47 (by omega)])
            have HN := Aside0.mk (grN_hit (l := l0) (o := a1) hlt (by rw [HXE.out]; exact hq))
            have hmx : (x.f1.length : Int) ≤ 9223372036854775807 := by have := G1.out.2.1; omega
            obtain ⟨ad2, e2, _, y1⟩ := at_T47 G1.out ((x.f1.length : Int) - 1) (by omega) (by omega)
            subst e2
            obtain ⟨hv, hhv⟩ : ∃ hv, (rd_T47 x.f1 ((x.f1.length : Int) - 1)).f1 = hv := ⟨_, rfl⟩
            rw [hhv, show ((x.f1.length : Int) - 1).toNat = x.f1.length - 1 by omega] at y1
            rw [hhv] at HT
            have Y1 : (wr.alloc (.cells #[.int .i64 x.f0, .slice (some ad2) x.f1.length c1] 45)).cell? ⟨(ad2.add ((x.f1.length - 1) * 2)).block, (ad2.add ((x.f1.length - 1) * 2)).off + 1, none⟩ = some (.int .i64 hv) := by rw [World.cell?_alloc_lt _ _ _ (World.block_lt_of_cell? _ _ y1)]; exact y1
            have hw1 : wrap64 ((x.f1.length : Int) - 1) = (x.f1.length : Int) - 1 := by unfold wrap64; omega
            have p0 : (0 : Int) ≤ (x.f1.length : Int) - 1 := by omega
            have p1 : (x.f1.length : Int) - 1 < (x.f1.length : Int) := by omega
            have hqb : (x.f0 == a1) = true := beq_iff_eq.2 hq
            have hq2 : decide (x.f0 = a1) = true := decide_eq_true hq
            clear hof hhv y1 hW hq
            go_wp2
            go_roundw
            case rel => exact ⟨i + 1, by go_num, by omega, by rw [HN.out, HT.out], ⟨by repeat (first | exact HX.out | apply below_alloc | apply pw_below_drewN | apply below_drew1)⟩⟩
            case measure => simp [intOf]; omega
          · have hqb : (x.f0 == a1) = false := beq_eq_false_iff_ne.2 hq
            have hq2 : decide (x.f0 = a1) = false := decide_eq_false hq
            have HN := Aside0.mk (grN_miss (l := l0) (o := a1) hlt (by rw [HXE.out]; exact hq))
            go_wp2
            go_roundw
            case rel => exact ⟨i + 1, by go_num, by omega, by rw [HN.out], ⟨by repeat (first | exact HX.out | apply below_alloc | apply pw_below_drewN | apply below_drew1)⟩⟩
            case measure => simp [intOf]; omega
        · have hi2 : i = l0.length := by omega
          subst hi2
          rw [grN_end]
          have HGS := Aside0.mk (Pl.gaps_of (o := a1) HV.out)
          rw [HG.out] at HGS
          have hmG : G.length ≤ 200 := HGS.out.len
          go_wp2_with (fail)
          obtain ⟨w5, rfl⟩ : ∃ w5 : World, w5 = wr := ⟨_, rfl⟩
          go_loopw [7, 11, 13, 14, 15, 16, 56] (fun v7 v11 v13 v14 v15 v16 v56 wr => ∃ (i : Nat) (Am : Option Addr) (cm : Nat) (m : List S45), v56 = .int .i64 i ∧ i ≤ G.length ∧ v7 = .int .i64 (Pl.nextOf 1 G i) ∧ v11 = .slice Am m.length cm ∧ Aside0 (m = Pl.addAll l0 a1 (G.take i)) ∧ Aside0 (Pl.okV m = true) ∧ Aside0 (Kd.V k45 45 wr 0 (fun _ => True) (.slice Am m.length cm) m) ∧ Aside0 (Below w4.heap.size w4 wr)) (fun _ _ _ _ _ _ v56 _ => G.length - (intOf v56).toNat)
          case atStart => exact ⟨0, A0, c0, l0, rfl, by omega, by rw [Pl.nextOf_zero], rfl, ⟨rfl⟩, HV, ⟨Kd.V_mk HC.out (Kd.F_below (Kd.F_mono (Kd.C_F k45_heap HR.out) (fun _ _ => trivial)) HX2.out)⟩, HX⟩
          case round =>
            clear HX HX2
            obtain ⟨i, Am, cm, m, rfl, hi, rfl, rfl, HM, HMV, HVM, HX⟩ := hrel
            have HX2 := Aside0.mk (below_step HB4.out HX.out)
            by_cases hlt : i < G.length
            · have hlti : (i : Int) < (G.length : Int) := by omega
              have HST : Aside0 (Pl.Step l0 a1 G i G[i] m) := ⟨by rw [HM.out]; exact Pl.step_of HV.out HGS.out hlt⟩
              obtain ⟨ad, e6, y0⟩ := Kd.at_int HR6.out.2.2 (i : Int) (by omega) hlti
              subst e6
              have hrd : rd G (i : Int) = G[i] := by unfold rd; rw [Int.toNat_natCast, List.getD_eq_getElem?_getD, List.getElem?_eq_getElem hlt]; rfl
              rw [Int.toNat_natCast, hrd] at y0
              replace y0 := (HX.out.cell (World.block_lt_of_cell? _ _ y0)).trans y0
              obtain ⟨g, hg⟩ : ∃ g, G[i] = g := ⟨_, rfl⟩
              rw [hg] at y0 HST
              obtain ⟨nx, hnx⟩ : ∃ nx, Pl.nextOf 1 G i = nx := ⟨_, rfl⟩
              obtain ⟨tp, htp⟩ : ∃ tp, Pl.topR 0 (Pl.OfL l0 a1) = tp := ⟨_, rfl⟩
              have q1 : ¬ g < nx := by have := HST.out.nxt; omega
              have q2 : ¬ g ≥ tp := by have := HST.out.top; omega
              have b1 : decide (g < nx) = false := decide_eq_false q1
              have b2 : decide (tp ≤ g) = false := decide_eq_false q2
              have hg1 : wrap64 (g + 1) = g + 1 := by have := HST.out.num; unfold wrap64; omega
              have hgm : wrap64 (g - 1) = g - 1 := by have := HST.out.num; unfold wrap64; omega
              have HH1 := Aside0.mk (Pl.has_cl (l := l0) (o := a1) (n := g) (k := 200000) (by have := HL.out; omega) (by have := HL.out; omega) (by have := HL.out; omega) HO.out)
              rw [HV.out, HST.out.out] at HH1
              have HNX := Aside0.mk hnx
              have HTP := Aside0.mk htp
              rw [hnx, htp]
              clear hg hrd hnx htp
              go_upto_region 16 with (fail)
              go_cut [13, 86] (fun v13 v86 wc => v13 = .int .i64 g ∧ v86 = .bool false ∧ Aside0 (Kd.V k45 45 wc 0 (fun _ => True) (.slice Am m.length cm) m) ∧ Aside0 (Below w4.heap.size w4 wc))
              case first =>
                go_wp2_with (fail)
                refine (seen_Has.calls 200000 A0 c0 l0 a1 g _ _ (Kd.C_below HR.out HX2.out) HC.out HH1.out).mono ?_
                rintro e w6 ⟨rfl, hb6⟩
                have HX6 := Aside0.mk (below_step HX.out hb6)
                have HVM6 := Aside0.mk (Kd.V_below HVM.out hb6)
                clear hb6
                by_cases c1 : nx < g
                · have b3 : decide (nx < g) = true := decide_eq_true c1
                  have HH2 := Aside0.mk (Pl.has_cl (l := l0) (o := a1) (n := g - 1) (k := 200000) (by have := HL.out; omega) (by have := HL.out; omega) (by have := HL.out; omega) HO.out)
                  rw [HV.out, HST.out.bef (by rw [HNX.out]; exact c1)] at HH2
                  clear c1
                  go_wp2_with (fail)
                  refine (seen_Has.calls 200000 A0 c0 l0 a1 (g - 1) _ _ (Kd.C_below HR.out (below_step HB4.out HX6.out)) HC.out HH2.out).mono ?_
                  rintro e w7 ⟨rfl, hb7⟩
                  have HX7 := Aside0.mk (below_step HX6.out hb7)
                  have HVM7 := Aside0.mk (Kd.V_below HVM6.out hb7)
                  clear hb7
                  go_wp2
                  go_meet
                  case rel => exact ⟨rfl, rfl, HVM7, HX7⟩
                · have b3 : decide (nx < g) = false := decide_eq_false c1
                  clear c1
                  go_wp2
                  go_meet
                  case rel => exact ⟨rfl, rfl, HVM6, HX6⟩
              case rest =>
                obtain ⟨rfl, rfl, HVM6, HX6⟩ := hcut
                have HSA := Aside0.mk (Pl.step_add HST.out HMV.out)
                have HML := Aside0.mk (Pl.okV_len HMV.out)
                have HAD := Aside0.mk (Pl.add_cl (l := m) (o := a1) (n := g) (k := 200000) (by have := HML.out; omega) (by have := HML.out; omega) (by have := HML.out; omega))
                rw [HSA.out] at HAD
                clear HX HX2 HVM q1 q2 b1 b2 y0
                go_wp2_with (fail)
                by_cases hfull : Pl.totL (Pl.addL m a1 g) > 64
                · rw [if_pos hfull] at HAD
                  clear hfull
                  refine (seen_Add.calls 200000 (fun _ => True) Am cm m a1 g _ _ _ _ HVM6.out HAD.out).mono ?_
                  rintro e w8 ⟨v8, rfl, hv8, hb8⟩
                  have HX8 := Aside0.mk (below_step HX6.out hb8)
                  clear hb8 hv8
                  go_wp2
                  go_ret
                  exact ⟨rfl, below_step HB4.out HX8.out⟩
                · rw [if_neg hfull] at HAD
                  have HMV2 := Aside0.mk (Pl.addR_okV ⟨HMV.out, HST.out.ran, HST.out.num⟩ (by omega : Pl.totL (Pl.addL m a1 g) ≤ 64))
                  have HM2 : Aside0 (Pl.addL m a1 g = Pl.addAll l0 a1 (G.take (i + 1))) := ⟨by rw [HST.out.all]⟩
                  obtain ⟨m2, hm2⟩ : ∃ m2, Pl.addL m a1 g = m2 := ⟨_, rfl⟩
                  rw [hm2] at HAD HMV2 HM2
                  clear hfull hm2
                  refine (seen_Add.calls 200000 (fun _ => True) Am cm m a1 g _ _ _ _ HVM6.out HAD.out).mono ?_
                  rintro e w8 ⟨v8, rfl, hv8, hb8⟩
                  have HX8 := Aside0.mk (below_step HX6.out hb8)
                  obtain ⟨A8, c8, rfl⟩ := Kd.V_slice hv8
                  have HV8 : Aside0 (Kd.V k45 45 w8 0 (fun _ => True) (.slice A8 m2.length c8) m2) := ⟨Kd.V_mono hv8 (fun _ _ => trivial)⟩
                  clear hb8 hv8
                  go_wp2
                  go_roundw
                  case rel => exact ⟨i + 1, A8, c8, m2, by go_num, by omega, by rw [HST.out.suc], rfl, HM2, HMV2, HV8, HX8⟩
                  case measure => simp [intOf]; omega
            · have hi2 : i = G.length := by omega
              subst hi2
              rw [List.take_length] at HM
              clear hm
              by_cases hful : (G.length : Int) = 200
              · have b1 : ((G.length : Int) == 200) = true := beq_iff_eq.2 hful
                have b2 : decide ((G.length : Int) = 200) = true := decide_eq_true hful
                clear hful hmG
                go_wp2
                go_ret
                exact ⟨rfl, HX2.out⟩
              · have b1 : ((G.length : Int) == 200) = false := beq_eq_false_iff_ne.2 hful
                have b2 : decide ((G.length : Int) = 200) = false := decide_eq_false hful
                have hgl : (G.length : Int) < 200 := by omega
                have HGE := Aside0.mk (Pl.gaps_end HV.out HGS.out (by omega) (by rw [← HM.out]; exact HMV.out))
                rw [← HM.out] at HGE
                have HML := Aside0.mk (Pl.okV_len HMV.out)
                have HMS := Aside0.mk (Pl.missing_cl (l := m) (o := a1) (most := 5) (k := 200000) (by have := HML.out; have : (5 : Int).toNat = 5 := rfl; omega) (by have := HML.out; omega) (by have := HML.out; omega) HO.out (by omega))
                rw [HGE.out.1] at HMS
                have HVC := Aside0.mk (Kd.V_reads' HVM.out)
                clear hful hmG HM
                go_wp2_with (fail)
                refine (seen_Missing.calls 200000 Am cm m a1 5 _ _ HVC.out.2.2 HVC.out.2.1 HMS.out).mono ?_
                rintro e w9 ⟨v17, rfl, hR9, hb9⟩
                have HX9 := Aside0.mk (below_step HX.out hb9)
                have HVM9 := Aside0.mk (Kd.V_below HVM.out hb9)
                obtain ⟨A17, c17, rfl⟩ := Kd.R_slice hR9
                clear hb9 hR9 HX HX2 HVM HVC HMS
                have hmm : m.length ≤ 64 := HML.out.1
                go_wp2_with (fail)
                obtain ⟨wo, rfl⟩ : ∃ wo : World, wo = w9 := ⟨_, rfl⟩
                go_loopw [19, 117] (fun v19 v117 wr => ∃ i : Nat, v117 = .int .i64 i ∧ i ≤ m.length ∧ Aside0 (Below wo.heap.size wo wr)) (fun _ v117 _ => m.length - (intOf v117).toNat)
                case atStart => exact ⟨0, rfl, by omega, ⟨Below.refl _ _⟩⟩
                case round =>
                  obtain ⟨i, rfl, hi, HX⟩ := hrel
                  have HX2 := Aside0.mk (below_step (below_step HB4.out HX9.out) HX.out)
                  by_cases hlt : i < m.length
                  · have hlti : (i : Int) < (m.length : Int) := by omega
                    obtain ⟨ad, A1, c1, e8, x0, x1, hl1, g1⟩ := at_T45 (Kd.V_reads' (Kd.V_below HVM9.out HX.out)).2.2 (i : Int) (by omega) hlti
                    subst e8
                    simp only [Int.toNat_natCast] at x0 x1
                    rw [Pl.rd45 hlt] at x0 x1 hl1 g1
                    have hmem : m[i] ∈ m := List.getElem_mem hlt
                    obtain ⟨x, hx⟩ : ∃ x, m[i] = x := ⟨_, rfl⟩
                    rw [hx] at x0 x1 hl1 g1 hmem
                    have HE := Aside0.mk (HGE.out.2 x hmem)
                    have G1 := Aside0.mk g1
                    clear hx hl1 g1 hmem
                    by_cases hq : x.f0 = a1
                    · have hqb : (x.f0 == a1) = true := beq_iff_eq.2 hq
                      have hq2 : decide (x.f0 = a1) = true := decide_eq_true hq
                      have hs := HE.out hq
                      obtain ⟨x0', x1'⟩ := x
                      simp only at hs x0 x1 hqb hq2
                      subst hs
                      have g2 := G1.out
                      simp only at g2
                      obtain ⟨ad2, e2, y0, y1⟩ := at_T47 g2 0 (by omega) (by simp)
                      subst e2
                      have e0 : rd_T47 [⟨1, Pl.topR 0 (Pl.OfL l0 a1)⟩] 0 = ⟨1, Pl.topR 0 (Pl.OfL l0 a1)⟩ := rfl
                      rw [e0] at y0 y1
                      simp only [Int.toNat_zero, Nat.zero_mul, Addr.add_zero'] at y0 y1
                      obtain ⟨tp, htp⟩ : ∃ tp, Pl.topR 0 (Pl.OfL l0 a1) = tp := ⟨_, rfl⟩
                      rw [htp] at y1
                      try rw [htp] at x1
                      try rw [htp]
                      have Y0 : ∀ ob, (wr.alloc ob).cell? ad2 = some (.int .i64 1) := fun ob => by rw [World.cell?_alloc_lt _ _ _ (World.block_lt_of_cell? _ _ y0)]; exact y0
                      have Y1 : ∀ ob, (wr.alloc ob).cell? ⟨ad2.block, ad2.off + 1, none⟩ = some (.int .i64 tp) := fun ob => by rw [World.cell?_alloc_lt _ _ _ (World.block_lt_of_cell? _ _ y1)]; exact y1
                      clear g2 G1 HE hq e0 htp y0 y1
                      go_wp2
                      go_roundw
                      case rel => exact ⟨i + 1, by go_num, by omega, ⟨by repeat (first | exact HX.out | apply below_alloc | apply pw_below_drewN | apply below_drew1)⟩⟩
                      case measure => simp [intOf]; omega
                    · have hqb : (x.f0 == a1) = false := beq_eq_false_iff_ne.2 hq
                      have hq2 : decide (x.f0 = a1) = false := decide_eq_false hq
                      clear hq
                      go_wp2
                      go_roundw
                      case rel => exact ⟨i + 1, by go_num, by omega, ⟨by repeat (first | exact HX.out | apply below_alloc | apply pw_below_drewN | apply below_drew1)⟩⟩
                      case measure => simp [intOf]; omega
                  · have hi2 : i = m.length := by omega
                    subst hi2
                    clear hi hlt
                    go_wp2
                    go_ret
                    exact ⟨rfl, HX2.out⟩
end Go.Proofs.Ytjibgfihfbdcaaa.PSeen
