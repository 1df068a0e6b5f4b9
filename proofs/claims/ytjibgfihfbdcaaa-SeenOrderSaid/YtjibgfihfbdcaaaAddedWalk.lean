/- The walk of added: the numbers of a list are added one behind the other. -/
import Derived.Test.YtjibgfihfbdcaaaOrderPl
namespace Go.Proofs.Ytjibgfihfbdcaaa.PSeen
open Go.RowKit Go.Proofs.YtjibgfihfbdcaaaW.PrintWords Go.Proofs.YtjibgfihfbdcaaaW.PrintLast Go.Proofs.YtjibgfihfbdcaaaW.PrintMore
set_option linter.unusedVariables false
set_option linter.unusedSimpArgs false
set_option maxHeartbeats 16000000 in
set_option maxRecDepth 100000 in
theorem added.calls (A0 : Option Addr) (c0 : Nat) (L : List (Int × Int)) (w : World) (hr0 : Kd.C k36 w A0 L.length L) (hc0 : L.length ≤ c0) (hl : L.length ≤ 64) (hb : ∀ x ∈ L, (0 ≤ x.1 ∧ x.1 ≤ 255) ∧ (0 ≤ x.2 ∧ x.2 ≤ 255)) :
    Calls Try.prog 21 #[.slice A0 L.length c0] w fun e w' => ∃ v0_ : Value, e = .returned (.tuple #[v0_, .bool true]) ∧ Kd.V k45 45 w' 0 (fun k => w.heap.size ≤ k) v0_ (Pl.ordL L) ∧ Below w.heap.size w w' := by
  have hu36 := Try.underlying36
  have hu35 := Try.underlying35
  have HR := Aside0.mk hr0
  have HC := Aside0.mk hc0
  have HB := Aside0.mk (Below.refl w.heap.size w)
  have HBB := Aside0.mk hb
  clear hr0 hb
  go_enter Try.func21, Try.ntmps21
  go_wp2_with (fail)
  go_loopw [4, 6, 7, 8, 9, 12] (fun v4 v6 v7 v8 v9 v12 wr => ∃ (i : Nat) (Am : Option Addr) (cm : Nat) (m : List S45), v12 = .int .i64 i ∧ i ≤ L.length ∧ v4 = .slice Am m.length cm ∧ Aside0 (m = Pl.ordL (L.take i)) ∧ Aside0 (Kd.V k45 45 wr 0 (fun k => w.heap.size ≤ k) (.slice Am m.length cm) m) ∧ Aside0 (Below w.heap.size w wr)) (fun _ _ _ _ _ v12 _ => L.length - (intOf v12).toNat)
  case atStart => exact ⟨0, none, 0, [], rfl, by omega, rfl, ⟨rfl⟩, ⟨Kd.V_nil _ _ _ _ _⟩, HB⟩
  case round =>
    obtain ⟨i, Am, cm, m, rfl, hi, rfl, HM, HVM, HX⟩ := hrel
    by_cases hlt : i < L.length
    · have hlti : (i : Int) < (L.length : Int) := by omega
      obtain ⟨ad, e6, x0, x1⟩ := at_T36 (Kd.C_below HR.out HX.out) hlt hlt
      subst e6
      obtain ⟨fr, hfr⟩ := (Pl.ord_add hlt hl).2.2
      have hv1 := (Pl.ord_add hlt hl).1
      rw [← HM.out] at hfr hv1
      have hbx := HBB.out L[i] (List.getElem_mem hlt)
      obtain ⟨x, hx⟩ : ∃ x, L[i] = x := ⟨_, rfl⟩
      rw [hx] at x0 x1 hfr hbx
      obtain ⟨xa, xb⟩ := x
      simp only at x0 x1 hfr hbx
      obtain ⟨⟨a1, a2⟩, b1, b2⟩ := hbx
      have HML := Aside0.mk (Pl.okV_len hv1)
      have HAD := Aside0.mk (Pl.add_cl (l := m) (o := xa % 8) (n := 1 + xb % 64) (k := 200000) (by have := HML.out; omega) (by have := HML.out; omega) (by have := HML.out; omega))
      rw [hfr] at HAD
      obtain ⟨m2, hm2⟩ : ∃ m2, Pl.ordL (L.take (i + 1)) = m2 := ⟨_, rfl⟩
      rw [hm2] at HAD
      have HM2 := Aside0.mk hm2.symm
      clear hx hm2 hfr hv1
      go_wp2_with (fail)
      have HXA := Aside0.mk (below_alloc HX.out (.cells #[.int .u8 xa, .int .u8 xb] 36))
      refine (seen_Add.calls 200000 (fun k => w.heap.size ≤ k) Am cm m (xa % 8) (1 + xb % 64) m2 fr 0 _ (Kd.V_alloc HVM.out _) HAD.out).mono ?_
      rintro e w8 ⟨v8, rfl, hv8, hb8⟩
      have HX8 := Aside0.mk (below_step HXA.out hb8)
      obtain ⟨A8, c8, rfl⟩ := Kd.V_slice hv8
      have HV8 : Aside0 (Kd.V k45 45 w8 0 (fun k => w.heap.size ≤ k) (.slice A8 m2.length c8) m2) := ⟨Kd.V_mono hv8 (fun k hk => hk.elim id (fun h => Nat.le_trans HXA.out.size h))⟩
      clear hb8 hv8
      go_wp2
      go_roundw
      case rel => exact ⟨i + 1, A8, c8, m2, by go_num, by omega, rfl, HM2, HV8, HX8⟩
      case measure => simp [intOf]; omega
    · have hi2 : i = L.length := by omega
      subst hi2
      rw [List.take_length] at HM
      go_wp2
      go_ret2
      exact ⟨_, rfl, by rw [← HM.out]; exact HVM.out, HX.out⟩
end Go.Proofs.Ytjibgfihfbdcaaa.PSeen
