-- A text of this claim, written by this session's program. -- SLIM
import Derived.Test.YtjibgfihfbdcaaaPSeenx0
import Derived.Test.YtjibgfihfbdcaaaPSeenx2
import Derived.Test.YtjibgfihfbdcaaaPSeenx3
import Derived.Test.YtjibgfihfbdcaaaPSeenx4
import Derived.Test.YtjibgfihfbdcaaaPSeenx5
namespace Go.Proofs.Ytjibgfihfbdcaaa.PSeen
open Go.RowKit Go.Proofs.YtjibgfihfbdcaaaW.PrintWords Go.Proofs.YtjibgfihfbdcaaaW.PrintLast Go.Proofs.YtjibgfihfbdcaaaW.PrintMore
attribute [local go_sem] max2_int min2_int max_two min_two max_three min_three max_four min_four   -- for this text's walks alone
set_option linter.unusedVariables false
set_option linter.unusedSimpArgs false

/-! ### seen_Add: function 11 (by hand) -/
theorem run_copy_cellsK {P : Program} (k : Nat) (w : World) (dT sT ty elem : TypeId) (b o dLen dCap : Nat) (a : Addr) (sLen sCap : Nat) (cs : List Value)
  (hu : P.underlying dT = some (.slice elem)) (hs : (P.info? elem).map (·.size) = some k) (hn : cs.length = Nat.min sLen dLen * k)
  (hsrc : ∀ j v, cs[j]? = some v → w.cell? (a.add j) = some v) (hc : ∀ j, j < cs.length → (w.cell? ⟨b, o + j, none⟩).isSome = true) (hf : ∀ j, j < cs.length → w.frozen? ⟨b, o + j, none⟩ = false) (h1 : ∀ v ∈ cs, v.oneCell' = true) :
  (Builtin.copy_ #[dT, sT] ty #[.slice (some ⟨b, o, none⟩) dLen dCap, .slice (some a) sLen sCap]).run P w = .ok (goInt (Nat.min sLen dLen : Nat)) (w.setCells b o cs) := by
 have hl := run_loadCells_list (P := P) w a cs hsrc
 have hst := run_storeCells_cells (P := P) b o cs 0 w (by simpa using hc) (by simpa using hf) h1
 cases hq : P.info? elem with
 | none => simp [hq] at hs
 | some i =>
  have hi : i.size = k := by simpa [hq] using hs
  simp [Builtin.copy_, run_underlying hu, Builtin.lenOf, Builtin.firstCells, sizeOf, typeInfo, hq, hi, ← hn, hl, hst]
theorem isSome_setCellsX (b : Nat) (vs : List Value) (o : Nat) (w : World) (h : ∀ j, j < vs.length → (w.cell? ⟨b, o + j, none⟩).isSome = true) (k : Nat) (hk : (w.cell? ⟨b, k, none⟩).isSome = true) : ((w.setCells b o vs).cell? ⟨b, k, none⟩).isSome = true := by
 by_cases hin : o ≤ k ∧ k < o + vs.length
 ·have := World.cell?_setCells_in b vs o w h (k - o) (by omega)
  rw [show o + (k - o) = k by omega] at this
  rw [this]; rfl
 ·rw [World.cell?_setCells_out b vs o w ⟨b, k, none⟩ (fun _ _ => by show k < o ∨ o + vs.length ≤ k; omega)]
  exact hk
theorem wp_copy_runX {P : Program} (w : World) {o : Oper} {a : Act} {K : Act → World → Prop} {Q : Exit → Act → World → Prop} (d s : Operand) (t t' : TypeId)
  (ho : o.op = .call { callee := .builtin .copy, args := #[d, s], argTypes := #[t, t'] }) (v u : Value) (hd : a.eval d = v) (hs : a.eval s = u) {v' : Value} {w' : World}
  (hr : (Builtin.copy_ #[t, t'] o.type #[v, u]).run P w = .ok v' w') (h : K (a.put o.dst v') w') : o.wp P a w K Q := by
 unfold Oper.wp execOp
 simp only [ho, resolve, invoke, builtin, Sem.run_bind, Sem.run_pure, Result.andThen_ok, List.map_toArray, List.map_cons, List.map_nil, hd, hs, hr]
 exact h
theorem wpList_copy_runX {P : Program} (w : World) {ops : Array Oper} {rest : List Oper} {o : Oper} {a : Act} {Q : Exit → Act → World → Prop} (hgd : o.guard = none) (d s : Operand) (t t' : TypeId)
  (ho : o.op = .call { callee := .builtin .copy, args := #[d, s], argTypes := #[t, t'] }) (v u : Value) (hd : a.eval d = v) (hs : a.eval s = u) {v' : Value} {w' : World}
  (hr : (Builtin.copy_ #[t, t'] o.type #[v, u]).run P w = .ok v' w') (h : wpList P ops Q rest (a.put o.dst v') w') : wpList P ops Q (o :: rest) a w :=
 wpList_plain hgd fun _ hK => wp_copy_runX w d s t t' ho v u hd hs hr (hK _ _ h)
theorem step_copy_runX {P : Program} {ops : Array Oper} {o : Oper} {a : Act} {w : World} {K : Act → World → Prop} {Q : Exit → Act → World → Prop} {E : Prop}
  (hg : o.guard = none) (d x : Operand) (dT sT : TypeId) (hop : o.op = Op.call { callee := Callee.builtin Builtin.copy, args := #[d, x], argTypes := #[dT, sT] })
  (v u : Value) (hd : a.eval d = v) (hx : a.eval x = u) {v' : Value} {w' : World} (hr : (Builtin.copy_ #[dT, sT] o.type #[v, u]).run P w = .ok v' w') (hK : K (a.put o.dst v') w') :
  if Region.wanted o (yielded ops a.tmps) = true then Oper.wp P o a w K Q else E := by
 have hw : Region.wanted o (yielded ops a.tmps) = true := by simp [Region.wanted, hg]
 rw [if_pos hw]
 unfold Oper.wp
 simp [execOp, hop, resolve, invoke, builtin, hd, hx, hr, Result.andThen]
 exact hK
set_option maxHeartbeats 1000000 in
set_option maxRecDepth 100000 in
/-- Insert in place. -/
theorem seen_insR_room (g n c i vb : Nat) (cs : List Value) (x0 x1 : Value) (w : World) (hi : i < n) (hroom : n + 1 ≤ c) (hc63 : c ≤ 9223372036854775807) (hn9 : n ≤ 1000000000) (hvb : vb ≠ g)
  (hcl : cs.length = n * 2) (cur : Array Value) (hg : w.heap[g]? = some (.cells cur 47 (0, 0))) (hcur : cur.size = c * 2) (htk : cur.toList.take (n * 2) = cs) (h1c : ∀ v ∈ cs, v.oneCell' = true)
  (hv : w.heap[vb]? = some (.cells #[x0, x1] 47 (0, 0))) (h1v : x0.oneCell' = true ∧ x1.oneCell' = true) :
  Calls Try.prog 34 #[.slice (some ⟨g, 0, none⟩) n c, .int .i64 i, .slice (some ⟨vb, 0, none⟩) 1 1] w fun e w' =>
   e = .returned (.slice (some ⟨g, 0, none⟩) (n + 1) c) ∧ w' = (w.drew.setCells g ((i + 1) * 2) (cs.drop (i * 2))).setCells g (i * 2) [x0, x1] := by
 have hz2 : ¬ ((i : Int) = (n : Int)) := by omega
 have hr2 : ¬ ((n : Int) + 1 > (c : Int)) := by omega
 have hw0 : wrap64 ((n : Int) + 1) = (n : Int) + 1 := by clear hcl hcur htk hg hv h1c h1v; unfold wrap64; omega
 have hw1 : wrap64 ((i : Int) + 1) = (i : Int) + 1 := by clear hcl hcur htk hg hv h1c h1v; unfold wrap64; omega
 have hi64 : IntKind.i64.wrap ((i : Int) + 1) = (i : Int) + 1 := by clear hcl hcur htk hg hv h1c h1v; rw [IntKind.wrap_i64]; omega
 have hn64 : IntKind.i64.wrap ((n : Int) + 1) = (n : Int) + 1 := by clear hcl hcur htk hg hv h1c h1v; rw [IntKind.wrap_i64]; omega
 have hb1 : (0 : Int) ≤ (i : Int) + 1 := by omega
 have hin : i ≤ n := by omega
 have hb2 : ¬ (c = i + 1) := by omega
 have hb3 : (i : Int) ≤ (n : Int) + 1 := by omega
 have hb4 : ¬ (c = i) := by omega
 have hnc : n ≤ c := by omega
 have huS := Try.underlying43
 have huE := Try.underlying47
 have hu3 := Try.underlying3
 obtain ⟨i0, hi0, hz0, hzs, hzb⟩ := info_parts info47
 have hsz : (Try.prog.info? 47).map (·.size) = some 2 := by rw [hi0]; simp [hzs]
 have hzE : ∀ w, (Go.sizeOf 47).run Try.prog w = .ok 2 w := fun w => by simp [sizeOf, typeInfo, hi0, hzs]
 have hcs : ∀ j v, cs[j]? = some v → w.cell? ⟨g, j, none⟩ = some v := fun j v hj => by
  have hjl := (List.getElem?_eq_some_iff.1 hj).1
  rw [blk_cell hg]
  rw [← htk, List.getElem?_take, if_pos (by omega)] at hj
  simpa using hj
 have hsp : ∀ j, j < (n + 1) * 2 → (w.cell? ⟨g, j, none⟩).isSome = true := fun j hj => by
  rw [blk_cell hg]
  simp only [Array.getElem?_eq_getElem (show j < cur.size by omega)]
  rfl
 have hfz : ∀ j, w.frozen? ⟨g, j, none⟩ = false := fun j => blk_frozen hg j
 have hvs : ∀ j v, ([x0, x1] : List Value)[j]? = some v → w.cell? ⟨vb, j, none⟩ = some v := fun j v hj => by
  rw [blk_cell hv]
  simpa using hj
 have h1v' : ∀ v ∈ ([x0, x1] : List Value), v.oneCell' = true := by
  intro v hv'
  simp at hv'
  rcases hv' with rfl | rfl
  ·exact h1v.1
  ·exact h1v.2
 have hov : ∀ lb cb, (callFunc 48 #[.slice (some ⟨vb, 0, none⟩) 1 1, .slice (some ⟨g, (i + 1) * 2, none⟩) lb cb]).run Try.prog w = .ok (.value (.bool false)) w := fun lb cb => by
  rw [run_callFunc_extern Try.func48 (by kernel_rfl) (by kernel_rfl) (by kernel_rfl) (e := Extern.SlicesOverlaps.overlaps #[43, 43] #[4]) (by kernel_rfl),
   Lib.run_overlaps_apart w 43 4 47 huS 2 hzE ⟨vb, 0, none⟩ ⟨g, (i + 1) * 2, none⟩ 1 1 lb cb hvb 47 47 2 cur.size (by simp [World.shape?, hv]) (by simp [World.shape?, hg]) (by omega) (blk_frozen hv 0) (blk_frozen hv 2)]
  rfl
 have hdl : (cs.drop (i * 2)).length = (n - i) * 2 := by rw [List.length_drop, hcl]; omega
 have hcp1 : ∀ ty dc sc, (Builtin.copy_ #[43, 43] ty #[.slice (some ⟨g, (i + 1) * 2, none⟩) (n - i) dc, .slice (some ⟨g, i * 2, none⟩) (n + 1 - i) sc]).run Try.prog w.drew = .ok (goInt (Nat.min (n + 1 - i) (n - i) : Nat)) (w.drew.setCells g ((i + 1) * 2) (cs.drop (i * 2))) := fun ty dc sc =>
  run_copy_cellsK 2 w.drew _ _ ty 47 g ((i + 1) * 2) (n - i) dc ⟨g, i * 2, none⟩ (n + 1 - i) sc (cs.drop (i * 2)) huS hsz (by rw [hdl, show Nat.min (n + 1 - i) (n - i) = n - i from Nat.min_eq_right (by omega)])
   (fun j v hj => by rw [Addr.add_lit]; exact hcs (i * 2 + j) v (by rwa [List.getElem?_drop] at hj))
   (fun j hj => hsp ((i + 1) * 2 + j) (by rw [hdl] at hj; omega)) (fun j hj => hfz _) (fun v hv => h1c v (List.mem_of_mem_drop hv))
 obtain ⟨W1, hW1⟩ : ∃ W1, W1 = w.drew.setCells g ((i + 1) * 2) (cs.drop (i * 2)) := ⟨_, rfl⟩
 have hsp1 : ∀ k, k < (n + 1) * 2 → (W1.cell? ⟨g, k, none⟩).isSome = true := fun k hk => by
  rw [hW1]
  exact isSome_setCellsX g _ _ w.drew (fun j hj => hsp ((i + 1) * 2 + j) (by rw [hdl] at hj; omega)) _ (hsp k hk)
 have hcp2 : ∀ (W : World), (∀ x, W.cell? x = W1.cell? x) → (∀ x, W.frozen? x = W1.frozen? x) → ∀ ty dc, (Builtin.copy_ #[43, 43] ty #[.slice (some ⟨g, i * 2, none⟩) (n + 1 - i) dc, .slice (some ⟨vb, 0, none⟩) 1 1]).run Try.prog W = .ok (goInt (Nat.min 1 (n + 1 - i) : Nat)) (W.setCells g (i * 2) [x0, x1]) := fun W hWc hWf ty dc =>
  run_copy_cellsK 2 W _ _ ty 47 g (i * 2) (n + 1 - i) dc ⟨vb, 0, none⟩ 1 1 [x0, x1] huS hsz (by rw [show Nat.min 1 (n + 1 - i) = 1 from Nat.min_eq_left (by omega)]; rfl)
   (fun j v hj => by
    rw [Addr.add_lit, hWc, hW1, World.cell?_setCells_out g _ _ _ _ (fun h _ => absurd h hvb), Nat.zero_add]
    exact hvs j v hj)
   (fun j hj => by rw [hWc]; exact hsp1 (i * 2 + j) (by simp only [List.length_cons, List.length_nil] at hj; omega)) (fun j hj => by rw [hWf, hW1, World.frozen?_setCells]; exact hfz _) h1v'
 rw [← hW1] at hcp1 ⊢
 have HOV := Aside0.mk hov
 have HC1 := Aside0.mk hcp1
 have HC2 := Aside0.mk hcp2
 have HW1 := Aside0.mk hW1
 clear hov hcp1 hcp2 hcs hsp hfz hvs h1v' hdl hsp1 hg hv htk hcur hcl h1c h1v hzE hsz hi0 hz0 hzs hzb hW1 hvb
 go_enter Try.func34, Try.ntmps34
 go_wp2_with (simp only [HOV.out])
 have hcp1 := HC1.out
 go_region
 clear hcp1
 have hcp2 := HC2.out W1 (fun _ => rfl) (fun _ => rfl)
 go_wp2
 go_ret
 exact ⟨rfl, rfl⟩
set_option maxHeartbeats 8000000 in
set_option maxRecDepth 100000 in
/-- Insert where there is no room. -/
theorem seen_insR_grow (g n c i vb : Nat) (cs : List Value) (x0 x1 : Value) (w : World) (hi : i < n) (hnc : n ≤ c) (hroom : c < n + 1) (hc63 : c ≤ 1000000000) (hvb : vb ≠ g)
  (hcl : cs.length = n * 2) (cur : Array Value) (hg : w.heap[g]? = some (.cells cur 47 (0, 0))) (hcur : cur.size = c * 2) (htk : cur.toList.take (n * 2) = cs) (h1c : ∀ v ∈ cs, v.oneCell' = true)
  (hv : w.heap[vb]? = some (.cells #[x0, x1] 47 (0, 0))) (h1v : x0.oneCell' = true ∧ x1.oneCell' = true) :
  ∃ (G : Nat) (ROW : Array Value), n + 1 ≤ G ∧ G ≤ maxLen ∧ ROW.size = G * 2 ∧ ROW.toList.take (i * 2) = cs.take (i * 2) ∧
  Calls Try.prog 34 #[.slice (some ⟨g, 0, none⟩) n c, .int .i64 i, .slice (some ⟨vb, 0, none⟩) 1 1] w fun e w' =>
   e = .returned (.slice (some ⟨w.heap.size, 0, none⟩) (n + 1) G) ∧
    w' = ((w.drew.alloc (.cells ROW 47)).setCells w.heap.size (i * 2) [x0, x1]).drew.setCells w.heap.size ((i + 1) * 2) (cs.drop (i * 2)) := by
 have hz2 : ¬ ((i : Int) = (n : Int)) := by omega
 have hr2 : (n : Int) + 1 > (c : Int) := by omega
 have hw0 : wrap64 ((n : Int) + 1) = (n : Int) + 1 := by clear hcl hcur htk hg hv h1c h1v; unfold wrap64; omega
 have hw1 : wrap64 ((i : Int) + 1) = (i : Int) + 1 := by clear hcl hcur htk hg hv h1c h1v; unfold wrap64; omega
 have hw2 : wrap64 ((n : Int) + 1 - (i : Int)) = (n : Int) + 1 - (i : Int) := by clear hcl hcur htk hg hv h1c h1v; unfold wrap64; omega
 have hi64 : IntKind.i64.wrap ((i : Int) + 1) = (i : Int) + 1 := by clear hcl hcur htk hg hv h1c h1v; rw [IntKind.wrap_i64]; omega
 have hn64 : IntKind.i64.wrap ((n : Int) + 1) = (n : Int) + 1 := by clear hcl hcur htk hg hv h1c h1v; rw [IntKind.wrap_i64]; omega
 have hk64 : IntKind.i64.wrap ((n : Int) + 1 - (i : Int)) = (n : Int) + 1 - (i : Int) := by clear hcl hcur htk hg hv h1c h1v; rw [IntKind.wrap_i64]; omega
 have hb1 : (0 : Int) ≤ (i : Int) + 1 := by omega
 have hin : i ≤ n := by omega
 have hic : i ≤ c := by omega
 have hb4 : ¬ (c = i) := by omega
 have hkk : (n : Int) + 1 - (i : Int) = ((n + 1 - i : Nat) : Int) := by omega
 have hgw : g < w.heap.size := blk_lt hg
 have hvw : vb < w.heap.size := blk_lt hv
 have huS := Try.underlying43
 have huE := Try.underlying47
 have hu3 := Try.underlying3
 obtain ⟨i0, hi0, hz0, hzs, hzb⟩ := info_parts info47
 have hsz : (Try.prog.info? 47).map (·.size) = some 2 := by rw [hi0]; simp [hzs]
 have hcs : ∀ j v, cs[j]? = some v → w.cell? ⟨g, j, none⟩ = some v := fun j v hj => by
  have hjl := (List.getElem?_eq_some_iff.1 hj).1
  rw [blk_cell hg]
  rw [← htk, List.getElem?_take, if_pos (by omega)] at hj
  simpa using hj
 have hvs : ∀ j v, ([x0, x1] : List Value)[j]? = some v → w.cell? ⟨vb, j, none⟩ = some v := fun j v hj => by
  rw [blk_cell hv]
  simpa using hj
 have h1v' : ∀ v ∈ ([x0, x1] : List Value), v.oneCell' = true := by
  intro v hv'
  simp at hv'
  rcases hv' with rfl | rfl
  ·exact h1v.1
  ·exact h1v.2
 have hold : (Builtin.firstCells i0.size i (.slice (some ⟨g, 0, none⟩) i c)).run Try.prog w.drew = .ok (cs.take (i * 2)).toArray w.drew := by
  rw [hzs]
  exact run_firstCells_some w.drew 2 i ⟨g, 0, none⟩ i c (cs.take (i * 2)) (by rw [List.length_take, hcl]; omega) (fun j v hj => by
   rw [Addr.add_lit, Nat.zero_add]
   rw [List.getElem?_take] at hj
   split at hj
   ·exact hcs j v hj
   ·cases hj)
 obtain ⟨G, hG⟩ : ∃ G, G = grownCap w (n + 1) c 47 := ⟨_, rfl⟩
 obtain ⟨ROW, hROW⟩ : ∃ ROW : Array Value, ROW = (cs.take (i * 2)).toArray ++ Builtin.zeroCells (Value.agg #[.int .i64 0, .int .i64 0]).cells (n + 1 - i) ++ Builtin.zeroCells (Value.agg #[.int .i64 0, .int .i64 0]).cells (G - (n + 1)) := ⟨_, rfl⟩
 have hGn : n + 1 ≤ G := by rw [hG]; exact grownCap_ge w _ _ _
 have hGm : G ≤ maxLen := by rw [hG]; exact grownCap_le_maxLen w (n + 1) c 47 (by unfold maxLen; omega)
 have hG63 : G ≤ 9223372036854775807 := by unfold maxLen at hGm; omega
 have hRs : ROW.size = G * 2 := by
  rw [hROW]
  simp [Builtin.zeroCells, Value.cells, hcl]
  omega
 have hRt : ROW.toList.take (i * 2) = cs.take (i * 2) := by
  rw [hROW]
  simp only [Array.toList_append, List.append_assoc]
  rw [List.take_append_of_le_length (by simp [hcl]; omega), List.take_of_length_le (by simp; omega)]
 have hrz : ∀ ty, (Builtin.append_ #[43, 3] ty #[.slice (some ⟨g, 0, none⟩) i c, .int .i64 ((n + 1 - i : Nat) : Int)]).run Try.prog w =
   .ok (.slice (some ⟨w.heap.size, 0, none⟩) (n + 1) G) (w.drew.alloc (.cells ROW 47)) := fun ty => by
  have h := Lib.run_append_grow_zeros w 43 3 ty 47 i0 _ .i64 .i64 huS hu3 hi0 hz0 (some ⟨g, 0, none⟩) i c (cs.take (i * 2)) hold (n + 1 - i) (by omega) (by omega) (by omega) (by omega) (by rw [hzb]; omega) (by rw [hzb, show i + (n + 1 - i) = n + 1 by omega]; exact growslice_fits hroom (by omega))
  rw [show i + (n + 1 - i) = n + 1 by omega, ← hG, ← hROW] at h
  exact h
 obtain ⟨W1, hW1⟩ : ∃ W1, W1 = w.drew.alloc (.cells ROW 47) := ⟨_, rfl⟩
 obtain ⟨H, hH⟩ : ∃ H, H = w.heap.size := ⟨_, rfl⟩
 have hHb : W1.heap[H]? = some (.cells ROW 47 (0, 0)) := by rw [hW1, hH]; exact heap_alloc_new w.drew _
 have hN : ∀ j, j < (n + 1) * 2 → (W1.cell? ⟨H, j, none⟩).isSome = true := fun j hj => by
  rw [blk_cell hHb]
  simp only [Array.getElem?_eq_getElem (show j < ROW.size by omega)]
  rfl
 have hNf : ∀ j, W1.frozen? ⟨H, j, none⟩ = false := fun j => blk_frozen hHb j
 have hOb : ∀ j v, w.cell? ⟨g, j, none⟩ = some v → W1.cell? ⟨g, j, none⟩ = some v := fun j v h => by rw [hW1]; exact (World.cell?_alloc_lt w.drew _ _ hgw).trans h
 have hOv : ∀ j v, w.cell? ⟨vb, j, none⟩ = some v → W1.cell? ⟨vb, j, none⟩ = some v := fun j v h => by rw [hW1]; exact (World.cell?_alloc_lt w.drew _ _ hvw).trans h
 have hgH : g ≠ H := by omega
 have hvH : vb ≠ H := by omega
 have hcpA : ∀ ty dc, (Builtin.copy_ #[43, 43] ty #[.slice (some ⟨H, i * 2, none⟩) (n + 1 - i) dc, .slice (some ⟨vb, 0, none⟩) 1 1]).run Try.prog W1 = .ok (goInt (Nat.min 1 (n + 1 - i) : Nat)) (W1.setCells H (i * 2) [x0, x1]) := fun ty dc =>
  run_copy_cellsK 2 W1 _ _ ty 47 H (i * 2) (n + 1 - i) dc ⟨vb, 0, none⟩ 1 1 [x0, x1] huS hsz (by rw [show Nat.min 1 (n + 1 - i) = 1 from Nat.min_eq_left (by omega)]; rfl)
   (fun j v hj => by rw [Addr.add_lit, Nat.zero_add]; exact hOv _ v (hvs j v hj))
   (fun j hj => hN (i * 2 + j) (by simp only [List.length_cons, List.length_nil] at hj; omega)) (fun j hj => hNf _) h1v'
 obtain ⟨W2, hW2⟩ : ∃ W2, W2 = W1.setCells H (i * 2) [x0, x1] := ⟨_, rfl⟩
 have hdl : (cs.drop (i * 2)).length = (n - i) * 2 := by rw [List.length_drop, hcl]; omega
 have hN2 : ∀ k, k < (n + 1) * 2 → (W2.cell? ⟨H, k, none⟩).isSome = true := fun k hk => by
  rw [hW2]
  exact isSome_setCellsX H _ _ W1 (fun j hj => hN (i * 2 + j) (by simp only [List.length_cons, List.length_nil] at hj; omega)) _ (hN k hk)
 have hcpB : ∀ ty dc sc, (Builtin.copy_ #[43, 43] ty #[.slice (some ⟨H, (i + 1) * 2, none⟩) (n - i) dc, .slice (some ⟨g, i * 2, none⟩) (n - i) sc]).run Try.prog W2.drew = .ok (goInt (Nat.min (n - i) (n - i) : Nat)) (W2.drew.setCells H ((i + 1) * 2) (cs.drop (i * 2))) := fun ty dc sc =>
  run_copy_cellsK 2 W2.drew _ _ ty 47 H ((i + 1) * 2) (n - i) dc ⟨g, i * 2, none⟩ (n - i) sc (cs.drop (i * 2)) huS hsz (by rw [hdl, show Nat.min (n - i) (n - i) = n - i from Nat.min_self _])
   (fun j v hj => by
    rw [Addr.add_lit]
    show W2.cell? _ = _
    rw [hW2, World.cell?_setCells_out H _ _ _ _ (fun h _ => absurd h hgH)]
    exact hOb _ v (hcs (i * 2 + j) v (by rwa [List.getElem?_drop] at hj)))
   (fun j hj => hN2 ((i + 1) * 2 + j) (by rw [hdl] at hj; omega)) (fun j hj => by
    show W2.frozen? _ = _
    rw [hW2, World.frozen?_setCells]
    exact hNf _) (fun v hv => h1c v (List.mem_of_mem_drop hv))
 rw [← hW1, ← hH] at hrz
 rw [← hW2] at hcpA
 have hGi : ¬ (G = i) := by omega
 have hGim : ¬ (G = i + 1) := by omega
 have HRZ := Aside0.mk hrz
 have HCA := Aside0.mk hcpA
 have HCB := Aside0.mk hcpB
 refine ⟨G, ROW, hGn, hGm, hRs, hRt, ?_⟩
 rw [← hW1, ← hH, ← hW2]
 clear hrz hcpA hcpB hold hROW hG hRs hRt hN hNf hOb hOv hgH hvH hN2 hdl hHb hW1 hW2 hH hcs hvs h1v' hg hv htk hcur hcl h1c h1v hsz hi0 hz0 hzs hzb hvb hgw hvw hGm
 go_enter Try.func34, Try.ntmps34
 go_wp2_with (first | (at_builtin; refine Lib.wpList_append_run _ rfl _ _ _ _ rfl _ _ rfl rfl _ _ (HRZ.out _) ?_))
 rw [HCA.out]
 go_wp2_with (fail)
 have hcpB := HCB.out
 go_region
 go_wp2
 go_ret
 exact ⟨rfl, rfl⟩
theorem ins_list_room {T cs : List Value} {n i : Nat} {x0 x1 : Value} (hi : i < n) (hT : (n + 1) * 2 ≤ T.length) (hcs : T.take (n * 2) = cs) :
  (((T.take ((i + 1) * 2) ++ cs.drop (i * 2) ++ T.drop ((i + 1) * 2 + (cs.drop (i * 2)).length)).take (i * 2) ++ [x0, x1] ++
   (T.take ((i + 1) * 2) ++ cs.drop (i * 2) ++ T.drop ((i + 1) * 2 + (cs.drop (i * 2)).length)).drop (i * 2 + [x0, x1].length)).take ((n + 1) * 2)) = cs.take (i * 2) ++ [x0, x1] ++ cs.drop (i * 2) := by
 have hcl : cs.length = n * 2 := by rw [← hcs, List.length_take]; omega
 have hl1 : (T.take ((i + 1) * 2)).length = (i + 1) * 2 := by rw [List.length_take]; omega
 have e1 : (T.take ((i + 1) * 2) ++ cs.drop (i * 2) ++ T.drop ((i + 1) * 2 + (cs.drop (i * 2)).length)).take (i * 2) = cs.take (i * 2) := by
  rw [List.append_assoc, List.take_append_of_le_length (by rw [hl1]; omega), List.take_take, ← hcs, List.take_take]
  congr 1
  omega
 have e2 : (T.take ((i + 1) * 2) ++ cs.drop (i * 2) ++ T.drop ((i + 1) * 2 + (cs.drop (i * 2)).length)).drop (i * 2 + [x0, x1].length) = cs.drop (i * 2) ++ T.drop ((i + 1) * 2 + (cs.drop (i * 2)).length) := by
  rw [List.append_assoc, show i * 2 + [x0, x1].length = (T.take ((i + 1) * 2)).length by rw [hl1]; simp; omega, List.drop_left]
 rw [e1, e2, ← List.append_assoc, List.take_append_of_le_length (by simp; omega), List.take_of_length_le (by simp; omega)]
theorem ins_list_grow {T cs : List Value} {n i : Nat} {x0 x1 : Value} (hi : i < n) (hT : (n + 1) * 2 ≤ T.length) (hcl : cs.length = n * 2) (hcs : T.take (i * 2) = cs.take (i * 2)) :
  (((T.take (i * 2) ++ [x0, x1] ++ T.drop (i * 2 + [x0, x1].length)).take ((i + 1) * 2) ++ cs.drop (i * 2) ++
   (T.take (i * 2) ++ [x0, x1] ++ T.drop (i * 2 + [x0, x1].length)).drop ((i + 1) * 2 + (cs.drop (i * 2)).length)).take ((n + 1) * 2)) = cs.take (i * 2) ++ [x0, x1] ++ cs.drop (i * 2) := by
 have hl1 : (cs.take (i * 2) ++ [x0, x1]).length = (i + 1) * 2 := by simp [hcl]; omega
 rw [hcs]
 have e1 : (cs.take (i * 2) ++ [x0, x1] ++ T.drop (i * 2 + [x0, x1].length)).take ((i + 1) * 2) = cs.take (i * 2) ++ [x0, x1] := by
  rw [← hl1, List.take_left]
 rw [e1, List.take_append_of_le_length (by simp [hcl]; omega), List.take_of_length_le (by simp [hcl]; omega)]
set_option maxHeartbeats 8000000 in
set_option maxRecDepth 100000 in
/-- Insert at the end. -/
theorem seen_insR_end (base vb : Nat) (ok okx : Nat → Prop) (v : Value) (xs : List S47) (x : S47) (w : World) (HO0 : Kd.N k47 47 w base ok v xs) (hb0 : base ≤ w.heap.size) (hl : xs.length ≤ 1000000)
  (hx0 : Kd.F k47 w okx (some ⟨vb, 0, none⟩) 1 [x]) (hokx : ∀ k, okx k → ok k ∧ some k ≠ v.ownBlock) (hfresh : ∀ k, w.heap.size ≤ k → ok k) :
  Calls Try.prog 34 #[v, .int .i64 xs.length, .slice (some ⟨vb, 0, none⟩) 1 1] w fun e w' =>
   ∃ v', e = .returned v' ∧ Kd.N k47 47 w' base ok v' (xs ++ [x]) ∧ Below base w w' ∧ w.grownBy w' v.ownBlock ∧ (v'.ownBlock = v.ownBlock ∨ ∃ b, v'.ownBlock = some b ∧ w.heap.size ≤ b) := by
 have huS := Try.underlying43
 have huE := Try.underlying47
 obtain ⟨A, c, rfl⟩ := Kd.N_slice HO0
 have hxc : xs.length ≤ c := (Kd.N_reads' HO0).2.1
 have HO := Aside0.mk HO0
 have HX := Aside0.mk hx0
 have HB := Aside0.mk (Below.refl base w)
 have HOK := Aside0.mk hokx
 have HF := Aside0.mk hfresh
 have HB0 := Aside0.mk hb0
 clear HO0 hx0 hokx hfresh hb0
 have hw : IntKind.i64.wrap (xs.length : Int) = (xs.length : Int) := by rw [IntKind.wrap_i64]; omega
 go_enter Try.func34, Try.ntmps34
 go_wp2_with (first | ((with_reducible refine gate_builtin (b := .append) (xs := #[.tmp 23, .tmp 24]) rfl ?_); at_builtin; refine Kd.N_append_rows k47 (w0 := w) base rfl (.tmp 23) (.tmp 24) 43 47 (Value.agg #[.int .i64 0, .int .i64 0]) 16 rfl huS info47 rfl (by decide) (by omega) (.slice A xs.length c) xs [x] _ _ _ ok okx rfl rfl ?aO ?aR HOK.out HF.out ?aB ?aS ?aL ?_; (case aO => exact HO.out); (case aR => exact HX.out); (case aB => exact HB.out); (case aS => exact HB0.out); (case aL => omega); intro v1 w1 ho hb hg hat; have HN := Aside0.mk (And.intro ho (And.intro hb (And.intro hg hat))); clear ho hb hg hat))
 all_goals (go_ret; exact ⟨v1, rfl, by first | exact HN.out | (have hh := HN.out; cases A <;> exact hh)⟩)
theorem ins_get {α : Type} {L : List α} {y : α} {i : Nat} (hi : i ≤ L.length) (j : Nat) : (L.take i ++ [y] ++ L.drop i)[j]? = if j < i then L[j]? else if j = i then some y else L[j - 1]? := by
 have hl : (L.take i).length = i := by rw [List.length_take]; omega
 by_cases h1 : j < i
 ·rw [if_pos h1, List.append_assoc, List.getElem?_append_left (by omega), List.getElem?_take, if_pos h1]
 ·rw [if_neg h1, List.append_assoc, List.getElem?_append_right (by omega), hl]
  by_cases h2 : j = i
  ·subst h2
   rw [if_pos rfl]
   simp
  ·rw [if_neg h2, List.getElem?_append_right (by simp; omega), List.getElem?_drop]
   congr 1
   simp only [List.length_singleton]
   omega
namespace KX
variable {α : Type} {d : Kd α} {e base : Nat} {ok okx : Nat → Prop} {w1 W : World} {v v1 : Value} {xs : List α}
theorem N_ins {rows : List (List Value)} (h0 : ∀ k, v.ownBlock = some k → ok k) (hl : rows.length = xs.length) (hf : ∀ (j : Nat) (x : α) (c : List Value), xs[j]? = some x → rows[j]? = some c → Kd.FK d W (fun k => ok k ∧ some k ≠ v.ownBlock) x c)
  {i : Nat} (hi : i ≤ xs.length) {x : α} {c : List Value} (hx : Kd.FK d W okx x c) (hokx : ∀ k, okx k → ok k ∧ some k ≠ v.ownBlock) (hfresh : ∀ k, W.heap.size ≤ k → ok k)
  (hR : (Kd.raw d.sz).R e w1 base (fun k => some k = v1.ownBlock) v1 (rows.take i ++ [c] ++ rows.drop i)) (hg : W.grownBy w1 v.ownBlock) (hat : v1.ownBlock = v.ownBlock ∨ ∃ b, v1.ownBlock = some b ∧ W.heap.size ≤ b) :
  Kd.N d e w1 base ok v1 (xs.take i ++ [x] ++ xs.drop i) := by
 have hne : ∀ k, some k ≠ v.ownBlock → k < W.heap.size → some k ≠ v1.ownBlock := by
  intro k hk hlt
  rcases hat with hat | ⟨b, hb, hle⟩
  ·rw [hat]; exact hk
  ·rw [hb]
   intro he
   injection he with he
   omega
 have step : ∀ {x : α} {c : List Value} {o : Nat → Prop}, Kd.FK d W o x c → (∀ k, o k → ok k ∧ some k ≠ v.ownBlock) → Kd.FK d w1 (fun k => ok k ∧ some k ≠ v1.ownBlock) x c := by
  intro x c o hq ho
  exact Kd.FK_mono (Kd.FK_step (Kd.FK_bound hq) (fun k hk hlt => hg.block k hlt (ho k hk.1).2)) (fun k hk => ⟨(ho k hk.1).1, hne k (ho k hk.1).2 hk.2⟩)
 refine ⟨fun k hk => ?_, rows.take i ++ [c] ++ rows.drop i, by simp only [List.length_append, List.length_take, List.length_drop, List.length_singleton, hl], hR, fun j y z hy hz => ?_⟩
 ·rcases hat with hat | ⟨b, hb, hle⟩
  ·exact h0 k (hat ▸ hk)
  ·rw [hb] at hk
   injection hk with hk
   exact hfresh k (by omega)
 ·rw [ins_get hi] at hy
  rw [ins_get (by omega)] at hz
  by_cases h1 : j < i
  ·rw [if_pos h1] at hy hz
   exact step (hf j y z hy hz) (fun _ hk => hk)
  ·rw [if_neg h1] at hy hz
   by_cases h2 : j = i
   ·rw [if_pos h2] at hy hz
    obtain rfl := Option.some.inj hy
    obtain rfl := Option.some.inj hz
    exact step hx hokx
   ·rw [if_neg h2] at hy hz
    exact step (hf _ y z hy hz) (fun _ hk => hk)
end KX
set_option maxHeartbeats 4000000 in
/-- slices.Insert with one value, on a row of the call's own. -/
theorem seen_insR_calls (base vb : Nat) (ok okx : Nat → Prop) (v : Value) (xs : List S47) (x : S47) (x0 x1 : Value) (i : Nat) (w : World) (HO : Kd.N k47 47 w base ok v xs) (hb : base ≤ w.heap.size) (hl : xs.length ≤ 1000000) (hi : i ≤ xs.length)
  (hv : w.heap[vb]? = some (.cells #[x0, x1] 47 (0, 0))) (hne : some vb ≠ v.ownBlock) (hx : Kd.FK k47 w okx x [x0, x1]) (hF : Kd.F k47 w okx (some ⟨vb, 0, none⟩) 1 [x]) (hokx : ∀ k, okx k → ok k ∧ some k ≠ v.ownBlock) (hfresh : ∀ k, w.heap.size ≤ k → ok k) :
  Calls Try.prog 34 #[v, .int .i64 i, .slice (some ⟨vb, 0, none⟩) 1 1] w fun e w' =>
   ∃ v', e = .returned v' ∧ Kd.N k47 47 w' base ok v' (xs.take i ++ [x] ++ xs.drop i) ∧ Below base w w' ∧ w.grownBy w' v.ownBlock ∧ (v'.ownBlock = v.ownBlock ∨ ∃ b, v'.ownBlock = some b ∧ w.heap.size ≤ b) := by
 by_cases hin : i = xs.length
 ·subst hin
  rw [List.take_length, List.drop_length, List.append_nil]
  exact seen_insR_end base vb ok okx v xs x w HO hb hl hF hokx hfresh
 have h1v := Kd.K_one k47 (Kd.FK_now hx)
 obtain ⟨h0, rows, hlr, hR, hf⟩ := HO
 obtain ⟨_, inner, ho, hr⟩ := hR
 obtain ⟨hlen, ho⟩ := ho
 rcases ho with ⟨_, hz⟩ | ⟨g, cap, cur, rfl, hgb, hh, hncap, hcap, hsz, htk⟩
 ·omega
 have hD : (Kd.raw k47.sz).sz = 2 := rfl
 rw [hD] at hlen hsz htk
 rw [hlr] at hlen hncap htk
 have hgv : vb ≠ g := fun he => hne (by rw [he]; rfl)
 have hglt := blk_lt hh
 have h1c : ∀ u ∈ inner, u.oneCell' = true := Kd.reps_one hr (by decide) (fun p c hp => hp.2.2)
 have hin' : i < xs.length := by omega
 have hrep : Reps (fun (x : List Value) cs => cs = x ∧ cs.length = 2 ∧ ∀ u ∈ cs, u.oneCell' = true) 2 (rows.take i ++ [[x0, x1]] ++ rows.drop i) (inner.take (i * 2) ++ [x0, x1] ++ inner.drop (i * 2)) :=
  Kd.reps_append (Reps.snoc (Kd.reps_take hr (by omega)) ⟨rfl, rfl, h1v⟩ rfl) (Kd.reps_drop hr)
 have hlr' : (rows.take i ++ [[x0, x1]] ++ rows.drop i).length = xs.length + 1 := by
  simp only [List.length_append, List.length_take, List.length_drop, List.length_singleton, hlr]
  omega
 have hmax : maxLen = 9223372036854775807 := rfl
 rw [hlr]
 by_cases hroom : xs.length + 1 ≤ cap
 ·refine (seen_insR_room g xs.length cap i vb inner x0 x1 w hin' hroom (by omega) (by omega) hgv hlen cur hh hsz htk h1c hv ⟨h1v x0 (by simp), h1v x1 (by simp)⟩).mono ?_
  rintro e w' ⟨rfl, hw'⟩
  have hdl : (inner.drop (i * 2)).length = (xs.length - i) * 2 := by rw [List.length_drop, hlen]; omega
  obtain ⟨c1, k1, s1, l1⟩ := setCells_row (inner.drop (i * 2)) ((i + 1) * 2) w.drew cur hh (by rw [hdl]; omega)
  obtain ⟨c2, k2, s2, l2⟩ := setCells_row [x0, x1] (i * 2) _ c1 k1 (by simp only [List.length_cons, List.length_nil]; omega)
  have hgr : w.grownBy w' (some g) := by
   rw [hw']
   obtain ⟨a1, a2, a3, a4⟩ := setCells_same g [x0, x1] (i * 2) (w.drew.setCells g ((i + 1) * 2) (inner.drop (i * 2)))
   obtain ⟨b1, b2, b3, b4⟩ := setCells_same g (inner.drop (i * 2)) ((i + 1) * 2) w.drew
   refine ⟨a1.trans b1, a2.trans b2, a3.trans b3, by rw [a4, b4]; exact Nat.le_refl _, fun k hk hkg => ?_⟩
   have hkg' : k ≠ g := fun he => hkg (by rw [he])
   rw [setCells_far _ _ k hkg', setCells_far _ _ k hkg']
   rfl
  have hat : (Value.slice (some ⟨g, 0, none⟩) (xs.length + 1) cap).ownBlock = (Value.slice (some ⟨g, 0, none⟩) xs.length cap).ownBlock := rfl
  rw [hlr] at h0 hf hokx
  refine ⟨_, rfl, KX.N_ins h0 hlr hf hi hx hokx hfresh ⟨fun k hk => hk.symm, _, ⟨?_, .inr ⟨g, cap, c2, ?_, hgb, hw' ▸ k2, ?_, hcap, ?_, ?_⟩⟩, hrep⟩ hgr (.inl hat), ⟨hgr.os, hgr.tape, hgr.output, hgr.size, fun k hk => hgr.block k (by omega) (fun he => by injection he with he; omega)⟩, hgr, .inl hat⟩
  ·exact hrep.1
  ·rw [hlr']
  ·rw [hlr']; exact hroom
  ·rw [s2, s1, hsz]; rfl
  ·rw [hlr', l2, l1]
   exact ins_list_room (T := cur.toList) (n := xs.length) hin' (by rw [show cur.toList.length = cap * 2 from (Array.length_toList (xs := cur)).trans hsz]; omega) htk
 ·obtain ⟨G, ROW, hG1, hG2, hRs, hRt, hcall⟩ := seen_insR_grow g xs.length cap i vb inner x0 x1 w hin' hncap (by omega) (by omega) hgv hlen cur hh hsz htk h1c hv ⟨h1v x0 (by simp), h1v x1 (by simp)⟩
  refine hcall.mono ?_
  rintro e w' ⟨rfl, hw'⟩
  have hdl : (inner.drop (i * 2)).length = (xs.length - i) * 2 := by rw [List.length_drop, hlen]; omega
  have hHb : (w.drew.alloc (.cells ROW 47)).heap[w.heap.size]? = some (.cells ROW 47 (0, 0)) := heap_alloc_new w.drew _
  obtain ⟨c1, k1, s1, l1⟩ := setCells_row [x0, x1] (i * 2) _ ROW hHb (by simp only [List.length_cons, List.length_nil]; omega)
  obtain ⟨c2, k2, s2, l2⟩ := setCells_row (inner.drop (i * 2)) ((i + 1) * 2) ((w.drew.alloc (.cells ROW 47)).setCells w.heap.size (i * 2) [x0, x1]).drew c1 k1 (by rw [hdl]; omega)
  have hgr : w.grownBy w' (some g) := by
   rw [hw']
   obtain ⟨a1, a2, a3, a4⟩ := setCells_same w.heap.size (inner.drop (i * 2)) ((i + 1) * 2) ((w.drew.alloc (.cells ROW 47)).setCells w.heap.size (i * 2) [x0, x1]).drew
   obtain ⟨b1, b2, b3, b4⟩ := setCells_same w.heap.size [x0, x1] (i * 2) (w.drew.alloc (.cells ROW 47))
   refine ⟨a1.trans b1, a2.trans b2, a3.trans b3, ?_, fun k hk hkg => ?_⟩
   ·rw [a4]
    show _ ≤ (World.setCells _ _ _ _).heap.size
    rw [b4]
    show w.heap.size ≤ (w.heap.push _).size
    simp
   ·have hkg' : k ≠ w.heap.size := by omega
    rw [setCells_far _ _ k hkg']
    show (World.setCells _ _ _ _).heap[k]? = _
    rw [setCells_far _ _ k hkg']
    exact (below_alloc (Below.refl w.drew.heap.size w.drew) _).block k hk
  have hat : (Value.slice (some ⟨w.heap.size, 0, none⟩) (xs.length + 1) G).ownBlock = some w.heap.size := rfl
  rw [hlr] at h0 hf hokx
  refine ⟨_, rfl, KX.N_ins h0 hlr hf hi hx hokx hfresh ⟨fun k hk => hk.symm, _, ⟨?_, .inr ⟨w.heap.size, G, c2, ?_, hb, hw' ▸ k2, ?_, hG2, ?_, ?_⟩⟩, hrep⟩ hgr (.inr ⟨_, hat, Nat.le_refl _⟩), ⟨hgr.os, hgr.tape, hgr.output, hgr.size, fun k hk => hgr.block k (by omega) (fun he => by injection he with he; omega)⟩, hgr, .inr ⟨_, hat, Nat.le_refl _⟩⟩
  ·exact hrep.1
  ·rw [hlr']
  ·rw [hlr']; exact hG1
  ·rw [s2, s1, hRs]; rfl
  ·rw [hlr', l2, l1]
   exact ins_list_grow (T := ROW.toList) (n := xs.length) hin' (by rw [show ROW.toList.length = G * 2 from (Array.length_toList (xs := ROW)).trans hRs]; omega) hlen hRt
set_option maxHeartbeats 1000000 in
set_option maxRecDepth 100000 in
/-- Insert in place. -/
theorem seen_insS_room (g n c i vb : Nat) (cs : List Value) (x0 x1 : Value) (w : World) (hi : i < n) (hroom : n + 1 ≤ c) (hc63 : c ≤ 9223372036854775807) (hn9 : n ≤ 1000000000) (hvb : vb ≠ g)
  (hcl : cs.length = n * 2) (cur : Array Value) (hg : w.heap[g]? = some (.cells cur 45 (0, 0))) (hcur : cur.size = c * 2) (htk : cur.toList.take (n * 2) = cs) (h1c : ∀ v ∈ cs, v.oneCell' = true)
  (hv : w.heap[vb]? = some (.cells #[x0, x1] 45 (0, 0))) (h1v : x0.oneCell' = true ∧ x1.oneCell' = true) :
  Calls Try.prog 29 #[.slice (some ⟨g, 0, none⟩) n c, .int .i64 i, .slice (some ⟨vb, 0, none⟩) 1 1] w fun e w' =>
   e = .returned (.slice (some ⟨g, 0, none⟩) (n + 1) c) ∧ w' = (w.drew.setCells g ((i + 1) * 2) (cs.drop (i * 2))).setCells g (i * 2) [x0, x1] := by
 have hz2 : ¬ ((i : Int) = (n : Int)) := by omega
 have hr2 : ¬ ((n : Int) + 1 > (c : Int)) := by omega
 have hw0 : wrap64 ((n : Int) + 1) = (n : Int) + 1 := by clear hcl hcur htk hg hv h1c h1v; unfold wrap64; omega
 have hw1 : wrap64 ((i : Int) + 1) = (i : Int) + 1 := by clear hcl hcur htk hg hv h1c h1v; unfold wrap64; omega
 have hi64 : IntKind.i64.wrap ((i : Int) + 1) = (i : Int) + 1 := by clear hcl hcur htk hg hv h1c h1v; rw [IntKind.wrap_i64]; omega
 have hn64 : IntKind.i64.wrap ((n : Int) + 1) = (n : Int) + 1 := by clear hcl hcur htk hg hv h1c h1v; rw [IntKind.wrap_i64]; omega
 have hb1 : (0 : Int) ≤ (i : Int) + 1 := by omega
 have hin : i ≤ n := by omega
 have hb2 : ¬ (c = i + 1) := by omega
 have hb3 : (i : Int) ≤ (n : Int) + 1 := by omega
 have hb4 : ¬ (c = i) := by omega
 have hnc : n ≤ c := by omega
 have huS := Try.underlying22
 have huE := Try.underlying45
 have hu3 := Try.underlying3
 obtain ⟨i0, hi0, hz0, hzs, hzb⟩ := info_parts info45
 have hsz : (Try.prog.info? 45).map (·.size) = some 2 := by rw [hi0]; simp [hzs]
 have hzE : ∀ w, (Go.sizeOf 45).run Try.prog w = .ok 2 w := fun w => by simp [sizeOf, typeInfo, hi0, hzs]
 have hcs : ∀ j v, cs[j]? = some v → w.cell? ⟨g, j, none⟩ = some v := fun j v hj => by
  have hjl := (List.getElem?_eq_some_iff.1 hj).1
  rw [blk_cell hg]
  rw [← htk, List.getElem?_take, if_pos (by omega)] at hj
  simpa using hj
 have hsp : ∀ j, j < (n + 1) * 2 → (w.cell? ⟨g, j, none⟩).isSome = true := fun j hj => by
  rw [blk_cell hg]
  simp only [Array.getElem?_eq_getElem (show j < cur.size by omega)]
  rfl
 have hfz : ∀ j, w.frozen? ⟨g, j, none⟩ = false := fun j => blk_frozen hg j
 have hvs : ∀ j v, ([x0, x1] : List Value)[j]? = some v → w.cell? ⟨vb, j, none⟩ = some v := fun j v hj => by
  rw [blk_cell hv]
  simpa using hj
 have h1v' : ∀ v ∈ ([x0, x1] : List Value), v.oneCell' = true := by
  intro v hv'
  simp at hv'
  rcases hv' with rfl | rfl
  ·exact h1v.1
  ·exact h1v.2
 have hov : ∀ lb cb, (callFunc 44 #[.slice (some ⟨vb, 0, none⟩) 1 1, .slice (some ⟨g, (i + 1) * 2, none⟩) lb cb]).run Try.prog w = .ok (.value (.bool false)) w := fun lb cb => by
  rw [run_callFunc_extern Try.func44 (by kernel_rfl) (by kernel_rfl) (by kernel_rfl) (e := Extern.SlicesOverlaps.overlaps #[22, 22] #[4]) (by kernel_rfl),
   Lib.run_overlaps_apart w 22 4 45 huS 2 hzE ⟨vb, 0, none⟩ ⟨g, (i + 1) * 2, none⟩ 1 1 lb cb hvb 45 45 2 cur.size (by simp [World.shape?, hv]) (by simp [World.shape?, hg]) (by omega) (blk_frozen hv 0) (blk_frozen hv 2)]
  rfl
 have hdl : (cs.drop (i * 2)).length = (n - i) * 2 := by rw [List.length_drop, hcl]; omega
 have hcp1 : ∀ ty dc sc, (Builtin.copy_ #[22, 22] ty #[.slice (some ⟨g, (i + 1) * 2, none⟩) (n - i) dc, .slice (some ⟨g, i * 2, none⟩) (n + 1 - i) sc]).run Try.prog w.drew = .ok (goInt (Nat.min (n + 1 - i) (n - i) : Nat)) (w.drew.setCells g ((i + 1) * 2) (cs.drop (i * 2))) := fun ty dc sc =>
  run_copy_cellsK 2 w.drew _ _ ty 45 g ((i + 1) * 2) (n - i) dc ⟨g, i * 2, none⟩ (n + 1 - i) sc (cs.drop (i * 2)) huS hsz (by rw [hdl, show Nat.min (n + 1 - i) (n - i) = n - i from Nat.min_eq_right (by omega)])
   (fun j v hj => by rw [Addr.add_lit]; exact hcs (i * 2 + j) v (by rwa [List.getElem?_drop] at hj))
   (fun j hj => hsp ((i + 1) * 2 + j) (by rw [hdl] at hj; omega)) (fun j hj => hfz _) (fun v hv => h1c v (List.mem_of_mem_drop hv))
 obtain ⟨W1, hW1⟩ : ∃ W1, W1 = w.drew.setCells g ((i + 1) * 2) (cs.drop (i * 2)) := ⟨_, rfl⟩
 have hsp1 : ∀ k, k < (n + 1) * 2 → (W1.cell? ⟨g, k, none⟩).isSome = true := fun k hk => by
  rw [hW1]
  exact isSome_setCellsX g _ _ w.drew (fun j hj => hsp ((i + 1) * 2 + j) (by rw [hdl] at hj; omega)) _ (hsp k hk)
 have hcp2 : ∀ (W : World), (∀ x, W.cell? x = W1.cell? x) → (∀ x, W.frozen? x = W1.frozen? x) → ∀ ty dc, (Builtin.copy_ #[22, 22] ty #[.slice (some ⟨g, i * 2, none⟩) (n + 1 - i) dc, .slice (some ⟨vb, 0, none⟩) 1 1]).run Try.prog W = .ok (goInt (Nat.min 1 (n + 1 - i) : Nat)) (W.setCells g (i * 2) [x0, x1]) := fun W hWc hWf ty dc =>
  run_copy_cellsK 2 W _ _ ty 45 g (i * 2) (n + 1 - i) dc ⟨vb, 0, none⟩ 1 1 [x0, x1] huS hsz (by rw [show Nat.min 1 (n + 1 - i) = 1 from Nat.min_eq_left (by omega)]; rfl)
   (fun j v hj => by
    rw [Addr.add_lit, hWc, hW1, World.cell?_setCells_out g _ _ _ _ (fun h _ => absurd h hvb), Nat.zero_add]
    exact hvs j v hj)
   (fun j hj => by rw [hWc]; exact hsp1 (i * 2 + j) (by simp only [List.length_cons, List.length_nil] at hj; omega)) (fun j hj => by rw [hWf, hW1, World.frozen?_setCells]; exact hfz _) h1v'
 rw [← hW1] at hcp1 ⊢
 have HOV := Aside0.mk hov
 have HC1 := Aside0.mk hcp1
 have HC2 := Aside0.mk hcp2
 have HW1 := Aside0.mk hW1
 clear hov hcp1 hcp2 hcs hsp hfz hvs h1v' hdl hsp1 hg hv htk hcur hcl h1c h1v hzE hsz hi0 hz0 hzs hzb hW1 hvb
 go_enter Try.func29, Try.ntmps29
 go_wp2_with (simp only [HOV.out])
 have hcp1 := HC1.out
 go_region
 clear hcp1
 have hcp2 := HC2.out W1 (fun _ => rfl) (fun _ => rfl)
 go_wp2
 go_ret
 exact ⟨rfl, rfl⟩
set_option maxHeartbeats 8000000 in
set_option maxRecDepth 100000 in
/-- Insert where there is no room. -/
theorem seen_insS_grow (g n c i vb : Nat) (cs : List Value) (x0 x1 : Value) (w : World) (hi : i < n) (hnc : n ≤ c) (hroom : c < n + 1) (hc63 : c ≤ 1000000000) (hvb : vb ≠ g)
  (hcl : cs.length = n * 2) (cur : Array Value) (hg : w.heap[g]? = some (.cells cur 45 (0, 0))) (hcur : cur.size = c * 2) (htk : cur.toList.take (n * 2) = cs) (h1c : ∀ v ∈ cs, v.oneCell' = true)
  (hv : w.heap[vb]? = some (.cells #[x0, x1] 45 (0, 0))) (h1v : x0.oneCell' = true ∧ x1.oneCell' = true) :
  ∃ (G : Nat) (ROW : Array Value), n + 1 ≤ G ∧ G ≤ maxLen ∧ ROW.size = G * 2 ∧ ROW.toList.take (i * 2) = cs.take (i * 2) ∧
  Calls Try.prog 29 #[.slice (some ⟨g, 0, none⟩) n c, .int .i64 i, .slice (some ⟨vb, 0, none⟩) 1 1] w fun e w' =>
   e = .returned (.slice (some ⟨w.heap.size, 0, none⟩) (n + 1) G) ∧
    w' = ((w.drew.alloc (.cells ROW 45)).setCells w.heap.size (i * 2) [x0, x1]).drew.setCells w.heap.size ((i + 1) * 2) (cs.drop (i * 2)) := by
 have hz2 : ¬ ((i : Int) = (n : Int)) := by omega
 have hr2 : (n : Int) + 1 > (c : Int) := by omega
 have hw0 : wrap64 ((n : Int) + 1) = (n : Int) + 1 := by clear hcl hcur htk hg hv h1c h1v; unfold wrap64; omega
 have hw1 : wrap64 ((i : Int) + 1) = (i : Int) + 1 := by clear hcl hcur htk hg hv h1c h1v; unfold wrap64; omega
 have hw2 : wrap64 ((n : Int) + 1 - (i : Int)) = (n : Int) + 1 - (i : Int) := by clear hcl hcur htk hg hv h1c h1v; unfold wrap64; omega
 have hi64 : IntKind.i64.wrap ((i : Int) + 1) = (i : Int) + 1 := by clear hcl hcur htk hg hv h1c h1v; rw [IntKind.wrap_i64]; omega
 have hn64 : IntKind.i64.wrap ((n : Int) + 1) = (n : Int) + 1 := by clear hcl hcur htk hg hv h1c h1v; rw [IntKind.wrap_i64]; omega
 have hk64 : IntKind.i64.wrap ((n : Int) + 1 - (i : Int)) = (n : Int) + 1 - (i : Int) := by clear hcl hcur htk hg hv h1c h1v; rw [IntKind.wrap_i64]; omega
 have hb1 : (0 : Int) ≤ (i : Int) + 1 := by omega
 have hin : i ≤ n := by omega
 have hic : i ≤ c := by omega
 have hb4 : ¬ (c = i) := by omega
 have hkk : (n : Int) + 1 - (i : Int) = ((n + 1 - i : Nat) : Int) := by omega
 have hgw : g < w.heap.size := blk_lt hg
 have hvw : vb < w.heap.size := blk_lt hv
 have huS := Try.underlying22
 have huE := Try.underlying45
 have hu3 := Try.underlying3
 obtain ⟨i0, hi0, hz0, hzs, hzb⟩ := info_parts info45
 have hsz : (Try.prog.info? 45).map (·.size) = some 2 := by rw [hi0]; simp [hzs]
 have hcs : ∀ j v, cs[j]? = some v → w.cell? ⟨g, j, none⟩ = some v := fun j v hj => by
  have hjl := (List.getElem?_eq_some_iff.1 hj).1
  rw [blk_cell hg]
  rw [← htk, List.getElem?_take, if_pos (by omega)] at hj
  simpa using hj
 have hvs : ∀ j v, ([x0, x1] : List Value)[j]? = some v → w.cell? ⟨vb, j, none⟩ = some v := fun j v hj => by
  rw [blk_cell hv]
  simpa using hj
 have h1v' : ∀ v ∈ ([x0, x1] : List Value), v.oneCell' = true := by
  intro v hv'
  simp at hv'
  rcases hv' with rfl | rfl
  ·exact h1v.1
  ·exact h1v.2
 have hold : (Builtin.firstCells i0.size i (.slice (some ⟨g, 0, none⟩) i c)).run Try.prog w.drew = .ok (cs.take (i * 2)).toArray w.drew := by
  rw [hzs]
  exact run_firstCells_some w.drew 2 i ⟨g, 0, none⟩ i c (cs.take (i * 2)) (by rw [List.length_take, hcl]; omega) (fun j v hj => by
   rw [Addr.add_lit, Nat.zero_add]
   rw [List.getElem?_take] at hj
   split at hj
   ·exact hcs j v hj
   ·cases hj)
 obtain ⟨G, hG⟩ : ∃ G, G = grownCap w (n + 1) c 45 := ⟨_, rfl⟩
 obtain ⟨ROW, hROW⟩ : ∃ ROW : Array Value, ROW = (cs.take (i * 2)).toArray ++ Builtin.zeroCells (Value.agg #[.int .i64 0, .slice none 0 0]).cells (n + 1 - i) ++ Builtin.zeroCells (Value.agg #[.int .i64 0, .slice none 0 0]).cells (G - (n + 1)) := ⟨_, rfl⟩
 have hGn : n + 1 ≤ G := by rw [hG]; exact grownCap_ge w _ _ _
 have hGm : G ≤ maxLen := by rw [hG]; exact grownCap_le_maxLen w (n + 1) c 45 (by unfold maxLen; omega)
 have hG63 : G ≤ 9223372036854775807 := by unfold maxLen at hGm; omega
 have hRs : ROW.size = G * 2 := by
  rw [hROW]
  simp [Builtin.zeroCells, Value.cells, hcl]
  omega
 have hRt : ROW.toList.take (i * 2) = cs.take (i * 2) := by
  rw [hROW]
  simp only [Array.toList_append, List.append_assoc]
  rw [List.take_append_of_le_length (by simp [hcl]; omega), List.take_of_length_le (by simp; omega)]
 have hrz : ∀ ty, (Builtin.append_ #[22, 3] ty #[.slice (some ⟨g, 0, none⟩) i c, .int .i64 ((n + 1 - i : Nat) : Int)]).run Try.prog w =
   .ok (.slice (some ⟨w.heap.size, 0, none⟩) (n + 1) G) (w.drew.alloc (.cells ROW 45)) := fun ty => by
  have h := Lib.run_append_grow_zeros w 22 3 ty 45 i0 _ .i64 .i64 huS hu3 hi0 hz0 (some ⟨g, 0, none⟩) i c (cs.take (i * 2)) hold (n + 1 - i) (by omega) (by omega) (by omega) (by omega) (by rw [hzb]; omega) (by rw [hzb, show i + (n + 1 - i) = n + 1 by omega]; exact growslice_fits hroom (by omega))
  rw [show i + (n + 1 - i) = n + 1 by omega, ← hG, ← hROW] at h
  exact h
 obtain ⟨W1, hW1⟩ : ∃ W1, W1 = w.drew.alloc (.cells ROW 45) := ⟨_, rfl⟩
 obtain ⟨H, hH⟩ : ∃ H, H = w.heap.size := ⟨_, rfl⟩
 have hHb : W1.heap[H]? = some (.cells ROW 45 (0, 0)) := by rw [hW1, hH]; exact heap_alloc_new w.drew _
 have hN : ∀ j, j < (n + 1) * 2 → (W1.cell? ⟨H, j, none⟩).isSome = true := fun j hj => by
  rw [blk_cell hHb]
  simp only [Array.getElem?_eq_getElem (show j < ROW.size by omega)]
  rfl
 have hNf : ∀ j, W1.frozen? ⟨H, j, none⟩ = false := fun j => blk_frozen hHb j
 have hOb : ∀ j v, w.cell? ⟨g, j, none⟩ = some v → W1.cell? ⟨g, j, none⟩ = some v := fun j v h => by rw [hW1]; exact (World.cell?_alloc_lt w.drew _ _ hgw).trans h
 have hOv : ∀ j v, w.cell? ⟨vb, j, none⟩ = some v → W1.cell? ⟨vb, j, none⟩ = some v := fun j v h => by rw [hW1]; exact (World.cell?_alloc_lt w.drew _ _ hvw).trans h
 have hgH : g ≠ H := by omega
 have hvH : vb ≠ H := by omega
 have hcpA : ∀ ty dc, (Builtin.copy_ #[22, 22] ty #[.slice (some ⟨H, i * 2, none⟩) (n + 1 - i) dc, .slice (some ⟨vb, 0, none⟩) 1 1]).run Try.prog W1 = .ok (goInt (Nat.min 1 (n + 1 - i) : Nat)) (W1.setCells H (i * 2) [x0, x1]) := fun ty dc =>
  run_copy_cellsK 2 W1 _ _ ty 45 H (i * 2) (n + 1 - i) dc ⟨vb, 0, none⟩ 1 1 [x0, x1] huS hsz (by rw [show Nat.min 1 (n + 1 - i) = 1 from Nat.min_eq_left (by omega)]; rfl)
   (fun j v hj => by rw [Addr.add_lit, Nat.zero_add]; exact hOv _ v (hvs j v hj))
   (fun j hj => hN (i * 2 + j) (by simp only [List.length_cons, List.length_nil] at hj; omega)) (fun j hj => hNf _) h1v'
 obtain ⟨W2, hW2⟩ : ∃ W2, W2 = W1.setCells H (i * 2) [x0, x1] := ⟨_, rfl⟩
 have hdl : (cs.drop (i * 2)).length = (n - i) * 2 := by rw [List.length_drop, hcl]; omega
 have hN2 : ∀ k, k < (n + 1) * 2 → (W2.cell? ⟨H, k, none⟩).isSome = true := fun k hk => by
  rw [hW2]
  exact isSome_setCellsX H _ _ W1 (fun j hj => hN (i * 2 + j) (by simp only [List.length_cons, List.length_nil] at hj; omega)) _ (hN k hk)
 have hcpB : ∀ ty dc sc, (Builtin.copy_ #[22, 22] ty #[.slice (some ⟨H, (i + 1) * 2, none⟩) (n - i) dc, .slice (some ⟨g, i * 2, none⟩) (n - i) sc]).run Try.prog W2.drew = .ok (goInt (Nat.min (n - i) (n - i) : Nat)) (W2.drew.setCells H ((i + 1) * 2) (cs.drop (i * 2))) := fun ty dc sc =>
  run_copy_cellsK 2 W2.drew _ _ ty 45 H ((i + 1) * 2) (n - i) dc ⟨g, i * 2, none⟩ (n - i) sc (cs.drop (i * 2)) huS hsz (by rw [hdl, show Nat.min (n - i) (n - i) = n - i from Nat.min_self _])
   (fun j v hj => by
    rw [Addr.add_lit]
    show W2.cell? _ = _
    rw [hW2, World.cell?_setCells_out H _ _ _ _ (fun h _ => absurd h hgH)]
    exact hOb _ v (hcs (i * 2 + j) v (by rwa [List.getElem?_drop] at hj)))
   (fun j hj => hN2 ((i + 1) * 2 + j) (by rw [hdl] at hj; omega)) (fun j hj => by
    show W2.frozen? _ = _
    rw [hW2, World.frozen?_setCells]
    exact hNf _) (fun v hv => h1c v (List.mem_of_mem_drop hv))
 rw [← hW1, ← hH] at hrz
 rw [← hW2] at hcpA
 have hGi : ¬ (G = i) := by omega
 have hGim : ¬ (G = i + 1) := by omega
 have HRZ := Aside0.mk hrz
 have HCA := Aside0.mk hcpA
 have HCB := Aside0.mk hcpB
 refine ⟨G, ROW, hGn, hGm, hRs, hRt, ?_⟩
 rw [← hW1, ← hH, ← hW2]
 clear hrz hcpA hcpB hold hROW hG hRs hRt hN hNf hOb hOv hgH hvH hN2 hdl hHb hW1 hW2 hH hcs hvs h1v' hg hv htk hcur hcl h1c h1v hsz hi0 hz0 hzs hzb hvb hgw hvw hGm
 go_enter Try.func29, Try.ntmps29
 go_wp2_with (first | (at_builtin; refine Lib.wpList_append_run _ rfl _ _ _ _ rfl _ _ rfl rfl _ _ (HRZ.out _) ?_))
 rw [HCA.out]
 go_wp2_with (fail)
 have hcpB := HCB.out
 go_region
 go_wp2
 go_ret
 exact ⟨rfl, rfl⟩
set_option maxHeartbeats 8000000 in
set_option maxRecDepth 100000 in
/-- Insert at the end. -/
theorem seen_insS_end (base vb : Nat) (ok okx : Nat → Prop) (v : Value) (xs : List S45) (x : S45) (w : World) (HO0 : Kd.N k45 45 w base ok v xs) (hb0 : base ≤ w.heap.size) (hl : xs.length ≤ 1000000)
  (hx0 : Kd.F k45 w okx (some ⟨vb, 0, none⟩) 1 [x]) (hokx : ∀ k, okx k → ok k ∧ some k ≠ v.ownBlock) (hfresh : ∀ k, w.heap.size ≤ k → ok k) :
  Calls Try.prog 29 #[v, .int .i64 xs.length, .slice (some ⟨vb, 0, none⟩) 1 1] w fun e w' =>
   ∃ v', e = .returned v' ∧ Kd.N k45 45 w' base ok v' (xs ++ [x]) ∧ Below base w w' ∧ w.grownBy w' v.ownBlock ∧ (v'.ownBlock = v.ownBlock ∨ ∃ b, v'.ownBlock = some b ∧ w.heap.size ≤ b) := by
 have huS := Try.underlying22
 have huE := Try.underlying45
 obtain ⟨A, c, rfl⟩ := Kd.N_slice HO0
 have hxc : xs.length ≤ c := (Kd.N_reads' HO0).2.1
 have HO := Aside0.mk HO0
 have HX := Aside0.mk hx0
 have HB := Aside0.mk (Below.refl base w)
 have HOK := Aside0.mk hokx
 have HF := Aside0.mk hfresh
 have HB0 := Aside0.mk hb0
 clear HO0 hx0 hokx hfresh hb0
 have hw : IntKind.i64.wrap (xs.length : Int) = (xs.length : Int) := by rw [IntKind.wrap_i64]; omega
 go_enter Try.func29, Try.ntmps29
 go_wp2_with (first | ((with_reducible refine gate_builtin (b := .append) (xs := #[.tmp 23, .tmp 24]) rfl ?_); at_builtin; refine Kd.N_append_rows k45 (w0 := w) base rfl (.tmp 23) (.tmp 24) 22 45 (Value.agg #[.int .i64 0, .slice none 0 0]) 32 rfl huS info45 rfl (by decide) (by omega) (.slice A xs.length c) xs [x] _ _ _ ok okx rfl rfl ?aO ?aR HOK.out HF.out ?aB ?aS ?aL ?_; (case aO => exact HO.out); (case aR => exact HX.out); (case aB => exact HB.out); (case aS => exact HB0.out); (case aL => omega); intro v1 w1 ho hb hg hat; have HN := Aside0.mk (And.intro ho (And.intro hb (And.intro hg hat))); clear ho hb hg hat))
 all_goals (go_ret; exact ⟨v1, rfl, by first | exact HN.out | (have hh := HN.out; cases A <;> exact hh)⟩)
set_option maxHeartbeats 4000000 in
/-- slices.Insert with one value, on a row of the call's own. -/
theorem seen_insS_calls (base vb : Nat) (ok okx : Nat → Prop) (v : Value) (xs : List S45) (x : S45) (x0 x1 : Value) (i : Nat) (w : World) (HO : Kd.N k45 45 w base ok v xs) (hb : base ≤ w.heap.size) (hl : xs.length ≤ 1000000) (hi : i ≤ xs.length)
  (hv : w.heap[vb]? = some (.cells #[x0, x1] 45 (0, 0))) (hne : some vb ≠ v.ownBlock) (hx : Kd.FK k45 w okx x [x0, x1]) (hF : Kd.F k45 w okx (some ⟨vb, 0, none⟩) 1 [x]) (hokx : ∀ k, okx k → ok k ∧ some k ≠ v.ownBlock) (hfresh : ∀ k, w.heap.size ≤ k → ok k) :
  Calls Try.prog 29 #[v, .int .i64 i, .slice (some ⟨vb, 0, none⟩) 1 1] w fun e w' =>
   ∃ v', e = .returned v' ∧ Kd.N k45 45 w' base ok v' (xs.take i ++ [x] ++ xs.drop i) ∧ Below base w w' ∧ w.grownBy w' v.ownBlock ∧ (v'.ownBlock = v.ownBlock ∨ ∃ b, v'.ownBlock = some b ∧ w.heap.size ≤ b) := by
 by_cases hin : i = xs.length
 ·subst hin
  rw [List.take_length, List.drop_length, List.append_nil]
  exact seen_insS_end base vb ok okx v xs x w HO hb hl hF hokx hfresh
 have h1v := Kd.K_one k45 (Kd.FK_now hx)
 obtain ⟨h0, rows, hlr, hR, hf⟩ := HO
 obtain ⟨_, inner, ho, hr⟩ := hR
 obtain ⟨hlen, ho⟩ := ho
 rcases ho with ⟨_, hz⟩ | ⟨g, cap, cur, rfl, hgb, hh, hncap, hcap, hsz, htk⟩
 ·omega
 have hD : (Kd.raw k45.sz).sz = 2 := rfl
 rw [hD] at hlen hsz htk
 rw [hlr] at hlen hncap htk
 have hgv : vb ≠ g := fun he => hne (by rw [he]; rfl)
 have hglt := blk_lt hh
 have h1c : ∀ u ∈ inner, u.oneCell' = true := Kd.reps_one hr (by decide) (fun p c hp => hp.2.2)
 have hin' : i < xs.length := by omega
 have hrep : Reps (fun (x : List Value) cs => cs = x ∧ cs.length = 2 ∧ ∀ u ∈ cs, u.oneCell' = true) 2 (rows.take i ++ [[x0, x1]] ++ rows.drop i) (inner.take (i * 2) ++ [x0, x1] ++ inner.drop (i * 2)) :=
  Kd.reps_append (Reps.snoc (Kd.reps_take hr (by omega)) ⟨rfl, rfl, h1v⟩ rfl) (Kd.reps_drop hr)
 have hlr' : (rows.take i ++ [[x0, x1]] ++ rows.drop i).length = xs.length + 1 := by
  simp only [List.length_append, List.length_take, List.length_drop, List.length_singleton, hlr]
  omega
 have hmax : maxLen = 9223372036854775807 := rfl
 rw [hlr]
 by_cases hroom : xs.length + 1 ≤ cap
 ·refine (seen_insS_room g xs.length cap i vb inner x0 x1 w hin' hroom (by omega) (by omega) hgv hlen cur hh hsz htk h1c hv ⟨h1v x0 (by simp), h1v x1 (by simp)⟩).mono ?_
  rintro e w' ⟨rfl, hw'⟩
  have hdl : (inner.drop (i * 2)).length = (xs.length - i) * 2 := by rw [List.length_drop, hlen]; omega
  obtain ⟨c1, k1, s1, l1⟩ := setCells_row (inner.drop (i * 2)) ((i + 1) * 2) w.drew cur hh (by rw [hdl]; omega)
  obtain ⟨c2, k2, s2, l2⟩ := setCells_row [x0, x1] (i * 2) _ c1 k1 (by simp only [List.length_cons, List.length_nil]; omega)
  have hgr : w.grownBy w' (some g) := by
   rw [hw']
   obtain ⟨a1, a2, a3, a4⟩ := setCells_same g [x0, x1] (i * 2) (w.drew.setCells g ((i + 1) * 2) (inner.drop (i * 2)))
   obtain ⟨b1, b2, b3, b4⟩ := setCells_same g (inner.drop (i * 2)) ((i + 1) * 2) w.drew
   refine ⟨a1.trans b1, a2.trans b2, a3.trans b3, by rw [a4, b4]; exact Nat.le_refl _, fun k hk hkg => ?_⟩
   have hkg' : k ≠ g := fun he => hkg (by rw [he])
   rw [setCells_far _ _ k hkg', setCells_far _ _ k hkg']
   rfl
  have hat : (Value.slice (some ⟨g, 0, none⟩) (xs.length + 1) cap).ownBlock = (Value.slice (some ⟨g, 0, none⟩) xs.length cap).ownBlock := rfl
  rw [hlr] at h0 hf hokx
  refine ⟨_, rfl, KX.N_ins h0 hlr hf hi hx hokx hfresh ⟨fun k hk => hk.symm, _, ⟨?_, .inr ⟨g, cap, c2, ?_, hgb, hw' ▸ k2, ?_, hcap, ?_, ?_⟩⟩, hrep⟩ hgr (.inl hat), ⟨hgr.os, hgr.tape, hgr.output, hgr.size, fun k hk => hgr.block k (by omega) (fun he => by injection he with he; omega)⟩, hgr, .inl hat⟩
  ·exact hrep.1
  ·rw [hlr']
  ·rw [hlr']; exact hroom
  ·rw [s2, s1, hsz]; rfl
  ·rw [hlr', l2, l1]
   exact ins_list_room (T := cur.toList) (n := xs.length) hin' (by rw [show cur.toList.length = cap * 2 from (Array.length_toList (xs := cur)).trans hsz]; omega) htk
 ·obtain ⟨G, ROW, hG1, hG2, hRs, hRt, hcall⟩ := seen_insS_grow g xs.length cap i vb inner x0 x1 w hin' hncap (by omega) (by omega) hgv hlen cur hh hsz htk h1c hv ⟨h1v x0 (by simp), h1v x1 (by simp)⟩
  refine hcall.mono ?_
  rintro e w' ⟨rfl, hw'⟩
  have hdl : (inner.drop (i * 2)).length = (xs.length - i) * 2 := by rw [List.length_drop, hlen]; omega
  have hHb : (w.drew.alloc (.cells ROW 45)).heap[w.heap.size]? = some (.cells ROW 45 (0, 0)) := heap_alloc_new w.drew _
  obtain ⟨c1, k1, s1, l1⟩ := setCells_row [x0, x1] (i * 2) _ ROW hHb (by simp only [List.length_cons, List.length_nil]; omega)
  obtain ⟨c2, k2, s2, l2⟩ := setCells_row (inner.drop (i * 2)) ((i + 1) * 2) ((w.drew.alloc (.cells ROW 45)).setCells w.heap.size (i * 2) [x0, x1]).drew c1 k1 (by rw [hdl]; omega)
  have hgr : w.grownBy w' (some g) := by
   rw [hw']
   obtain ⟨a1, a2, a3, a4⟩ := setCells_same w.heap.size (inner.drop (i * 2)) ((i + 1) * 2) ((w.drew.alloc (.cells ROW 45)).setCells w.heap.size (i * 2) [x0, x1]).drew
   obtain ⟨b1, b2, b3, b4⟩ := setCells_same w.heap.size [x0, x1] (i * 2) (w.drew.alloc (.cells ROW 45))
   refine ⟨a1.trans b1, a2.trans b2, a3.trans b3, ?_, fun k hk hkg => ?_⟩
   ·rw [a4]
    show _ ≤ (World.setCells _ _ _ _).heap.size
    rw [b4]
    show w.heap.size ≤ (w.heap.push _).size
    simp
   ·have hkg' : k ≠ w.heap.size := by omega
    rw [setCells_far _ _ k hkg']
    show (World.setCells _ _ _ _).heap[k]? = _
    rw [setCells_far _ _ k hkg']
    exact (below_alloc (Below.refl w.drew.heap.size w.drew) _).block k hk
  have hat : (Value.slice (some ⟨w.heap.size, 0, none⟩) (xs.length + 1) G).ownBlock = some w.heap.size := rfl
  rw [hlr] at h0 hf hokx
  refine ⟨_, rfl, KX.N_ins h0 hlr hf hi hx hokx hfresh ⟨fun k hk => hk.symm, _, ⟨?_, .inr ⟨w.heap.size, G, c2, ?_, hb, hw' ▸ k2, ?_, hG2, ?_, ?_⟩⟩, hrep⟩ hgr (.inr ⟨_, hat, Nat.le_refl _⟩), ⟨hgr.os, hgr.tape, hgr.output, hgr.size, fun k hk => hgr.block k (by omega) (fun he => by injection he with he; omega)⟩, hgr, .inr ⟨_, hat, Nat.le_refl _⟩⟩
  ·exact hrep.1
  ·rw [hlr']
  ·rw [hlr']; exact hG1
  ·rw [s2, s1, hRs]; rfl
  ·rw [hlr', l2, l1]
   exact ins_list_grow (T := ROW.toList) (n := xs.length) hin' (by rw [show ROW.toList.length = G * 2 from (Array.length_toList (xs := ROW)).trans hRs]; omega) hlen hRt
set_option maxHeartbeats 8000000 in
set_option maxRecDepth 100000 in
theorem seen_cloneR_calls (okp : Nat → Prop) (A0 : Option Addr) (c0 : Nat) (l0 : List S47) (w : World) (hF : Kd.F k47 w okp A0 l0.length l0) (hc0 : l0.length ≤ c0) (hlen : l0.length ≤ 1000000) :
  Calls Try.prog 35 #[.slice A0 l0.length c0] w fun e w' => ∃ v0_ : Value, e = .returned v0_ ∧ Kd.N k47 47 w' w.heap.size (fun k => okp k ∨ w.heap.size ≤ k) v0_ l0 ∧ Below w.heap.size w w' := by
 have HR := Aside0.mk (Kd.F_bound hF)
 have HC := Aside0.mk (Kd.F_now hF)
 have LM := Aside0.mk hlen
 have HB := Aside0.mk (Below.refl w.heap.size w)
 clear hF hlen
 cases A0 with
 | none =>
  have hz : l0.length = 0 := by
   rcases Nat.eq_zero_or_pos l0.length with h0 | h0
   ·exact h0
   ·obtain ⟨ad, he, _⟩ := HC.out.2.2 h0
    cases he
  have hnil : l0 = [] := List.length_eq_zero_iff.1 hz
  subst hnil
  clear hz
  have he : ∀ W : World, (binOp .eql 43 (.slice none 0 c0) (.slice none 0 0)).run Try.prog W = .ok (.bool true) W := fun W => Lib.run_eql_slice_nil W 43 47 none 0 c0 0 0 Try.underlying43
  go_enter Try.func35, Try.ntmps35
  go_wp2
  go_ret
  exact ⟨.slice none 0 0, rfl, Kd.N_nil _ _ _ _ _, by repeat (first | exact HB.out | apply below_alloc | apply pw_below_drewN | apply below_drew1)⟩
 | some ad =>
  have HO := Aside0.mk (Kd.R_N (Kd.R_empty k47 47 w (base := w.heap.size) (ok := fun k => okp k ∨ w.heap.size ≤ k) (Nat.le_refl _) (.inr (Nat.le_refl _))))
  have he : ∀ W : World, (binOp .eql 43 (.slice (some ad) l0.length c0) (.slice none 0 0)).run Try.prog W = .ok (.bool false) W := fun W => Lib.run_eql_slice_nil W 43 47 (some ad) l0.length c0 0 0 Try.underlying43
  have HK := Aside0.mk (show ∀ k, (okp k ∧ k < w.heap.size) → (okp k ∨ w.heap.size ≤ k) ∧ some k ≠ (Value.slice (some ⟨w.heap.size, 0, none⟩) 0 0).ownBlock from fun k hk => ⟨.inl hk.1, fun he => Nat.ne_of_lt hk.2 (by simpa [Value.ownBlock] using he)⟩)
  have HFR := Aside0.mk (show ∀ k, (w.alloc (.cells #[] 47)).heap.size ≤ k → (okp k ∨ w.heap.size ≤ k) from fun k hk => .inr (Nat.le_trans (by show w.heap.size ≤ (w.heap.push _).size; simp) hk))
  have HS := Aside0.mk (show w.heap.size ≤ (w.alloc (.cells #[] 47)).heap.size by show w.heap.size ≤ (w.heap.push _).size; simp)
  go_enter Try.func35, Try.ntmps35
  go_wp2_with (first | ((with_reducible refine gate_builtin (b := .append) (xs := #[.tmp 5, .tmp 6]) rfl ?_); at_builtin; refine Kd.N_append_rows k47 (w0 := w) w.heap.size rfl (.tmp 5) (.tmp 6) 43 47 (Value.agg #[.int .i64 0, .int .i64 0]) 16 rfl Try.underlying43 info47 rfl (by decide) (by omega) (.slice (some ⟨w.heap.size, 0, none⟩) 0 0) ([] : List S47) l0 _ _ _ (fun k => okp k ∨ w.heap.size ≤ k) (fun k => okp k ∧ k < w.heap.size) rfl rfl ?aO ?aR HK.out HFR.out ?aB HS.out ?aL ?_; (case aO => exact HO.out); (case aR => exact Kd.F_alloc HR.out _); (case aB => exact below_alloc HB.out _); (case aL => have := LM.out; simp; omega); intro v132 w5 ho hb hg hat; have HN := Aside0.mk (And.intro ho hb); clear ho hb hg hat))
  go_ret
  exact ⟨v132, rfl, HN.out⟩
set_option maxHeartbeats 8000000 in
set_option maxRecDepth 100000 in
theorem seen_cloneS_calls (okp : Nat → Prop) (A0 : Option Addr) (c0 : Nat) (l0 : List S45) (w : World) (hF : Kd.F k45 w okp A0 l0.length l0) (hc0 : l0.length ≤ c0) (hlen : l0.length ≤ 1000000) :
  Calls Try.prog 28 #[.slice A0 l0.length c0] w fun e w' => ∃ v0_ : Value, e = .returned v0_ ∧ Kd.N k45 45 w' w.heap.size (fun k => okp k ∨ w.heap.size ≤ k) v0_ l0 ∧ Below w.heap.size w w' := by
 have HR := Aside0.mk (Kd.F_bound hF)
 have HC := Aside0.mk (Kd.F_now hF)
 have LM := Aside0.mk hlen
 have HB := Aside0.mk (Below.refl w.heap.size w)
 clear hF hlen
 cases A0 with
 | none =>
  have hz : l0.length = 0 := by
   rcases Nat.eq_zero_or_pos l0.length with h0 | h0
   ·exact h0
   ·obtain ⟨ad, he, _⟩ := HC.out.2.2 h0
    cases he
  have hnil : l0 = [] := List.length_eq_zero_iff.1 hz
  subst hnil
  clear hz
  have he : ∀ W : World, (binOp .eql 22 (.slice none 0 c0) (.slice none 0 0)).run Try.prog W = .ok (.bool true) W := fun W => Lib.run_eql_slice_nil W 22 45 none 0 c0 0 0 Try.underlying22
  go_enter Try.func28, Try.ntmps28
  go_wp2
  go_ret
  exact ⟨.slice none 0 0, rfl, Kd.N_nil _ _ _ _ _, by repeat (first | exact HB.out | apply below_alloc | apply pw_below_drewN | apply below_drew1)⟩
 | some ad =>
  have HO := Aside0.mk (Kd.R_N (Kd.R_empty k45 45 w (base := w.heap.size) (ok := fun k => okp k ∨ w.heap.size ≤ k) (Nat.le_refl _) (.inr (Nat.le_refl _))))
  have he : ∀ W : World, (binOp .eql 22 (.slice (some ad) l0.length c0) (.slice none 0 0)).run Try.prog W = .ok (.bool false) W := fun W => Lib.run_eql_slice_nil W 22 45 (some ad) l0.length c0 0 0 Try.underlying22
  have HK := Aside0.mk (show ∀ k, (okp k ∧ k < w.heap.size) → (okp k ∨ w.heap.size ≤ k) ∧ some k ≠ (Value.slice (some ⟨w.heap.size, 0, none⟩) 0 0).ownBlock from fun k hk => ⟨.inl hk.1, fun he => Nat.ne_of_lt hk.2 (by simpa [Value.ownBlock] using he)⟩)
  have HFR := Aside0.mk (show ∀ k, (w.alloc (.cells #[] 45)).heap.size ≤ k → (okp k ∨ w.heap.size ≤ k) from fun k hk => .inr (Nat.le_trans (by show w.heap.size ≤ (w.heap.push _).size; simp) hk))
  have HS := Aside0.mk (show w.heap.size ≤ (w.alloc (.cells #[] 45)).heap.size by show w.heap.size ≤ (w.heap.push _).size; simp)
  go_enter Try.func28, Try.ntmps28
  go_wp2_with (first | ((with_reducible refine gate_builtin (b := .append) (xs := #[.tmp 5, .tmp 6]) rfl ?_); at_builtin; refine Kd.N_append_rows k45 (w0 := w) w.heap.size rfl (.tmp 5) (.tmp 6) 22 45 (Value.agg #[.int .i64 0, .slice none 0 0]) 32 rfl Try.underlying22 info45 rfl (by decide) (by omega) (.slice (some ⟨w.heap.size, 0, none⟩) 0 0) ([] : List S45) l0 _ _ _ (fun k => okp k ∨ w.heap.size ≤ k) (fun k => okp k ∧ k < w.heap.size) rfl rfl ?aO ?aR HK.out HFR.out ?aB HS.out ?aL ?_; (case aO => exact HO.out); (case aR => exact Kd.F_alloc HR.out _); (case aB => exact below_alloc HB.out _); (case aL => have := LM.out; simp; omega); intro v132 w5 ho hb hg hat; have HN := Aside0.mk (And.intro ho hb); clear ho hb hg hat))
  go_ret
  exact ⟨v132, rfl, HN.out⟩
def gtR (n : Int) (x : S47) : Bool := decide (x.f0 > n)
set_option maxHeartbeats 2000000 in
set_option maxRecDepth 100000 in
theorem seen_Add_1.calls (B : Nat) (n : Int) (x : S47) (W : World) (hc : W.cell? ⟨B, 0, none⟩ = some (.int .i64 n)) :
  Calls Try.prog 32 #[.agg #[.int .i64 x.f0, .int .i64 x.f1], .pointer (some ⟨B, 0, none⟩)] W fun e w' => e = .returned (.bool (gtR n x)) ∧ Below W.heap.size W w' := by
 have hu47 := Try.underlying47
 obtain ⟨f0, f1⟩ := x
 unfold gtR
 simp only
 have HBW := Aside0.mk (below_alloc (Below.refl W.heap.size W) (.cells #[.int .i64 f0, .int .i64 f1] 47))
 have hc2 : (W.alloc (.cells #[.int .i64 f0, .int .i64 f1] 47)).cell? ⟨B, 0, none⟩ = some (.int .i64 n) := by rw [World.cell?_alloc_lt _ _ _ (World.block_lt_of_cell? W _ hc)]; exact hc
 go_enter Try.func32, Try.ntmps32
 go_wp2
 go_ret
 exact ⟨by first | rfl | (simp; done), HBW.out⟩
def addOut (l0 : List S45) (a1 : Int) : List S45 := if (decide (bsI l0 a1 < l0.length) && decide (wrap64 ((l0.getD (bsI l0 a1) z45).f0 - a1) = 0)) = true then l0 else l0.take (bsI l0 a1) ++ [⟨a1, []⟩] ++ l0.drop (bsI l0 a1)
def addSets (l0 : List S45) (a1 : Int) : List S47 := ((addOut l0 a1).getD (bsI l0 a1) z45).f1
def addAt (l : List S47) (a2 : Int) : Nat := if fdx (gtR a2) l < 0 then l.length else (fdx (gtR a2) l).toNat
def seen_Add.f (k : Nat) (l0 : List S45) (a1 a2 : Int) : Option (List S45 × Bool × Int) := (seen_Valid.f k l0).bind fun v =>
 if v = true ∧ (0 ≤ a1 ∧ a1 ≤ 59) ∧ (1 ≤ a2 ∧ a2 ≤ 1000000000) then
  (if l0.length ≤ 1000 ∧ (addSets l0 a1).length ≤ 1000 then
   (if 0 ≤ fdx (inR a2) (addSets l0 a1) then some (addOut l0 a1, false, 0)
   else (seen_join.f k ((addSets l0 a1).take (addAt (addSets l0 a1) a2) ++ [⟨a2, a2⟩] ++ (addSets l0 a1).drop (addAt (addSets l0 a1) a2))).bind fun s =>
    (seen_many.f k ((addOut l0 a1).set (bsI l0 a1) ⟨((addOut l0 a1).getD (bsI l0 a1) z45).f0, s⟩)).bind fun m =>
     if m > 64 then some ([], false, 10) else some ((addOut l0 a1).set (bsI l0 a1) ⟨((addOut l0 a1).getD (bsI l0 a1) z45).f0, s⟩, true, 0))
  else none)
 else some ([], false, 1)
theorem seen_Add.mono : ∀ a0 a1 a2 k, LeO (seen_Add.f k a0 a1 a2) (seen_Add.f (k + 1) a0 a1 a2) := by
 intro a0 a1 a2 k
 unfold seen_Add.f
 refine LeO.bind (seen_Valid.mono _ _) (fun _ => ?_)
 repeat' first
  | exact LeO.refl _
  | refine LeO.ite ?_ ?_
  | refine LeO.bind (seen_join.mono _ _) (fun _ => ?_)
  | refine LeO.bind (seen_many.mono _ _) (fun _ => ?_)
/-- An operation of a region that yields a value and changes the world. -/
theorem yield_ {P : Program} {ops : Array Oper} {Q : Exit → Act → World → Prop} {oi : Oper} {N : Option Tmp} {a : Act} {w w1 : World} {K : Act → World → Prop} {v : Value} (hw : Region.wanted oi (yielded ops a.tmps) = true) (hN : oi.dst = N) (hrun : (execOp a.eval oi).run P w = .ok (.value v) w1)
  (h : K (a.put N v) w1) : if Region.wanted oi (yielded ops a.tmps) = true then Oper.wp P oi a w K Q else K (a.put N undef) w := by
 rw [if_pos hw]
 unfold Oper.wp
 rw [hrun]
 show K (a.put oi.dst v) w1
 rw [hN]
 exact h
/-- A row of one element of two cells, in a block of its own. -/
theorem one_F {α : Type} {d : Kd α} {W : World} {vb e : Nat} {x : α} {x0 x1 : Value} (hd : d.sz = 2) (hh : W.heap[vb]? = some (.cells #[x0, x1] e (0, 0))) {okx : Nat → Prop} (ho : okx vb) (hx : Kd.FK d W okx x [x0, x1]) :
  Kd.F d W okx (some ⟨vb, 0, none⟩) 1 [x] := fun W' hW => by
 have hh' : W'.heap[vb]? = some (.cells #[x0, x1] e (0, 0)) := (hW vb ho (blk_lt hh)).trans hh
 refine ⟨rfl, by decide, fun _ => ⟨_, rfl, fun j p hj => ?_⟩⟩
 have hj0 : j = 0 := by
  have := (List.getElem?_eq_some_iff.1 hj).1
  simp at this
  omega
 subst hj0
 obtain rfl : x = p := by simpa using hj
 refine ⟨[x0, x1], hd.symm, hx W' hW, fun i u hu => ?_⟩
 rw [Nat.zero_mul, Nat.zero_add, Addr.add_lit, Nat.zero_add, blk_cell hh']
 simpa using hu
theorem between_tot (a lo hi : Int) : seen_between.f a lo hi = some (decide (lo ≤ a ∧ a ≤ hi)) := seen_between.ev a lo hi _ rfl
set_option maxHeartbeats 4000000 in
set_option maxRecDepth 100000 in
theorem seen_Add.calls (k : Nat) (P0_ : Nat → Prop) (A0 : Option Addr) (c0 : Nat) (l0 : List (S45)) (a1 : Int) (a2 : Int) (r1 : List (S45)) (r2 : Bool) (r3 : Int) (w : World) (hs0 : Kd.V k45 45 w w.heap.size (fun k_ => P0_ k_) (.slice A0 l0.length c0) l0) (h : seen_Add.f k l0 a1 a2 = some (r1, r2, r3)) :
  Calls Try.prog 11 #[.slice A0 l0.length c0, .int .i64 a1, .int .i64 a2] w fun e w' => ∃ v0_ : Value, e = .returned (.tuple #[v0_, .bool r2, .int .i64 r3]) ∧ Kd.V k45 45 w' w.heap.size (fun k_ => (P0_ k_ ∨ w.heap.size ≤ k_)) v0_ r1 ∧ Below w.heap.size w w' := by
 obtain ⟨A_, c_, he_, hc0, hF0⟩ := hs0
 injection he_ with e1 e2 e3
 subst e1
 subst e3
 clear e2
 have HF0 := Aside0.mk hF0
 have HC0 := Aside0.mk hc0
 have HBW := Aside0.mk (below_alloc (Below.refl w.heap.size w) (.cells #[.int .i64 a2] 3))
 have hq0 : (w.alloc (.cells #[.int .i64 a2] 3)).cell? ⟨w.heap.size, 0, none⟩ = some (.int .i64 a2) := by simp [go_sem]
 unfold seen_Add.f at h
 obtain ⟨vv, hv, h⟩ := Option.bind_eq_some_iff.mp h
 have HV := Aside0.mk hv
 clear hF0 hc0 hv
 by_cases hcond : vv = true ∧ (0 ≤ a1 ∧ a1 ≤ 59) ∧ (1 ≤ a2 ∧ a2 ≤ 1000000000)
 ·rw [if_pos hcond] at h
  obtain ⟨rfl, hc1, hc2⟩ := hcond
  have HT1 := Aside0.mk (seen_between.ev a1 0 59 true (decide_eq_true hc1))
  have HT2 := Aside0.mk (seen_between.ev a2 1 1000000000 true (decide_eq_true hc2))
  by_cases hlen : l0.length ≤ 1000 ∧ (addSets l0 a1).length ≤ 1000
  case neg => rw [if_neg hlen] at h; cases h
  rw [if_pos hlen] at h
  have H := Aside0.mk h
  clear h hc1 hc2
  go_enter Try.func11, Try.ntmps11
  go_wp2_with (fail)
  refine (seen_Valid.calls k A0 c0 l0 true _ (Kd.C_below (Kd.F_now HF0.out) HBW.out) HC0.out HV.out).mono ?_
  rintro e w1 ⟨rfl, hb1⟩
  have HB1 := Aside0.mk (below_step HBW.out hb1)
  have hq1 : w1.cell? ⟨w.heap.size, 0, none⟩ = some (.int .i64 a2) := (hb1.cell (World.block_lt_of_cell? _ _ hq0)).trans hq0
  clear hb1 hq0
  go_wp2_with (fail)
  refine (seen_between.calls a1 0 59 true _ HT1.out).mono ?_
  rintro e w2 ⟨rfl, ⟨n2, rfl⟩⟩
  go_wp2_with (fail)
  refine (seen_between.calls a2 1 1000000000 true _ HT2.out).mono ?_
  rintro e w3 ⟨rfl, ⟨n3, rfl⟩⟩
  have HB2 := Aside0.mk (pw_below_drewN HB1.out (n2 + n3))
  have hq2 : (w1.drewN (n2 + n3)).cell? ⟨w.heap.size, 0, none⟩ = some (.int .i64 a2) := hq1
  clear hq1
  go_wp2_with (fail)
  generalize w1.drewN (n2 + n3) = W2 at HB2 hq2 ⊢
  clear HB1
  obtain ⟨ok, hok⟩ : ∃ ok, (decide (bsI l0 a1 < l0.length) && decide (wrap64 ((l0.getD (bsI l0 a1) z45).f0 - a1) = 0)) = ok := ⟨_, rfl⟩
  have HOUT := Aside0.mk (show addOut l0 a1 = if ok = true then l0 else l0.take (bsI l0 a1) ++ [⟨a1, []⟩] ++ l0.drop (bsI l0 a1) by unfold addOut; rw [hok])
  have HFD : Aside0 (seen_find.f l0 a1 = some ((bsI l0 a1 : Int), ok)) := ⟨by unfold seen_find.f; rw [if_pos (by omega), hok]⟩
  have HIL := Aside0.mk (bsL_le l0.length l0 a1 0 l0.length l0.length (by omega) (by omega))
  have HOKL := Aside0.mk (show ok = true → bsI l0 a1 < l0.length from fun he => by rw [he] at hok; simp at hok; exact hok.1)
  clear hok
  obtain ⟨i, hi⟩ : ∃ i, bsI l0 a1 = i := ⟨_, rfl⟩
  rw [show bsL l0.length l0 a1 0 l0.length = bsI l0 a1 from rfl] at HIL
  rw [hi] at HOUT HFD HIL HOKL
  have HI := Aside0.mk hi
  clear hi
  refine (seen_find.calls A0 c0 l0 a1 i ok _ (Kd.C_below (Kd.F_now HF0.out) HB2.out) HC0.out HFD.out).mono ?_
  rintro e w4 ⟨rfl, hb4⟩
  have HB4 := Aside0.mk (below_step HB2.out hb4)
  have hq4 : w4.cell? ⟨w.heap.size, 0, none⟩ = some (.int .i64 a2) := (hb4.cell (World.block_lt_of_cell? _ _ hq2)).trans hq2
  clear hb4 hq2 HB2
  go_wp2_with (fail)
  refine (seen_cloneS_calls P0_ A0 c0 l0 _ (Kd.F_below HF0.out HB4.out) HC0.out (by omega)).mono ?_
  rintro e w5 ⟨v5, rfl, hN5, hb5⟩
  have HN5 := Aside0.mk hN5
  have HB5 := Aside0.mk (below_step HB4.out hb5)
  have HS5 := Aside0.mk hb5.size
  have hq5 : w5.cell? ⟨w.heap.size, 0, none⟩ = some (.int .i64 a2) := (hb5.cell (World.block_lt_of_cell? _ _ hq4)).trans hq4
  clear hb5 hN5
  go_upto_if 36 with (fail)
  go_cut [11] (fun v11 wc => Aside0 (Kd.N k45 45 wc w4.heap.size (fun k => P0_ k ∨ w4.heap.size ≤ k) v11 (addOut l0 a1)) ∧ Aside0 (Below w.heap.size w wc) ∧ wc.cell? ⟨w.heap.size, 0, none⟩ = some (.int .i64 a2) ∧ w4.heap.size ≤ wc.heap.size)
  case first =>
   cases ok with
   | true =>
    have hO : addOut l0 a1 = l0 := by rw [HOUT.out, if_pos rfl]
    have HN6 : Aside0 (Kd.N k45 45 w5 w4.heap.size (fun k => P0_ k ∨ w4.heap.size ≤ k) v5 (addOut l0 a1)) := ⟨by rw [hO]; exact HN5.out⟩
    clear hO
    go_wp2
    go_meet
    case rel => exact ⟨HN6, HB5, hq5, HS5.out⟩
   | false =>
    have hO : addOut l0 a1 = l0.take i ++ [⟨a1, []⟩] ++ l0.drop i := by rw [HOUT.out, if_neg (by simp)]
    have HO6 := Aside0.mk hO
    clear hO
    go_wp2_with (fail)
    have hlt5 := Kd.N_lt HN5.out
    have hh6 : (w5.alloc (.cells #[.int .i64 a1, .slice none 0 0] 45)).heap[w5.heap.size]? = some (.cells #[.int .i64 a1, .slice none 0 0] 45 (0, 0)) := heap_alloc_new w5 _
    have hx6 : Kd.FK k45 (w5.alloc (.cells #[.int .i64 a1, .slice none 0 0] 45)) (fun k => k = w5.heap.size) ⟨a1, []⟩ [.int .i64 a1, .slice none 0 0] := k45_mkF _ _ ⟨a1, []⟩ (Nat.le_refl _) (Kd.F_nil _ _ _)
    refine (seen_insS_calls w4.heap.size w5.heap.size (fun k => P0_ k ∨ w4.heap.size ≤ k) (fun k => k = w5.heap.size) v5 l0 ⟨a1, []⟩ (.int .i64 a1) (.slice none 0 0) i _ (Kd.N_alloc HN5.out _) (Nat.le_trans HS5.out (by show w5.heap.size ≤ (w5.heap.push _).size; simp)) (by omega) HIL.out hh6 (fun he => Nat.lt_irrefl _ (hlt5 _ he.symm)) hx6 (one_F rfl hh6 rfl hx6) (fun k hk => ⟨.inr (by rw [hk]; exact HS5.out), fun he => Nat.lt_irrefl _ (by have := hlt5 _ he.symm; rwa [hk] at this)⟩) (fun k hk => .inr (Nat.le_trans HS5.out (Nat.le_trans (by show w5.heap.size ≤ (w5.heap.push _).size; simp) hk)))).mono ?_
    rintro e w6 ⟨v6, rfl, hN6, hb6, hg6, hat6⟩
    have hlt4 : w.heap.size < w4.heap.size := World.block_lt_of_cell? _ _ hq4
    have HN7 : Aside0 (Kd.N k45 45 w6 w4.heap.size (fun k => P0_ k ∨ w4.heap.size ≤ k) v6 (addOut l0 a1)) := ⟨by rw [HO6.out]; exact hN6⟩
    have h51 := below_alloc HB5.out (.cells #[.int .i64 a1, .slice none 0 0] 45)
    have HB7 : Aside0 (Below w.heap.size w w6) := ⟨⟨hb6.os.trans h51.os, hb6.tape.trans h51.tape, hb6.output.trans h51.output, Nat.le_trans h51.size hb6.size, fun k hk => (hb6.block k (Nat.lt_trans hk hlt4)).trans (h51.block k hk)⟩⟩
    have hq7 : w6.cell? ⟨w.heap.size, 0, none⟩ = some (.int .i64 a2) := (hb6.cell (p := ⟨w.heap.size, 0, none⟩) hlt4).trans ((World.cell?_alloc_lt _ _ _ (World.block_lt_of_cell? _ _ hq5)).trans hq5)
    have HS7 := Aside0.mk (Nat.le_trans HS5.out (Nat.le_trans (show w5.heap.size ≤ (w5.alloc (.cells #[.int .i64 a1, .slice none 0 0] 45)).heap.size by show w5.heap.size ≤ (w5.heap.push _).size; simp) hb6.size))
    clear h51 hN6 hb6 hg6 hat6 hx6 hh6 hlt5 hlt4 hq5 hq4
    go_wp2
    go_meet
    case rel => exact ⟨HN7, HB7, hq7, HS7.out⟩
  case rest =>
   obtain ⟨HN, HB, hq, HS⟩ := hcut
   have hlen' : i < (addOut l0 a1).length := by
    have h1 := HIL.out
    have h2 := HOKL.out
    rw [HOUT.out]
    split
    ·rename_i he; exact h2 he
    ·simp only [List.length_append, List.length_take, List.length_drop, List.length_singleton]; omega
   have hno : (addOut l0 a1).length ≤ 1001 := by
    rw [HOUT.out]
    split
    ·omega
    ·simp only [List.length_append, List.length_take, List.length_drop, List.length_singleton]; omega
   obtain ⟨g, cap, rfl, hg1, hg2, cells, hgc⟩ := Kd.N_form HN.out (by omega)
   obtain ⟨ce, hcl, hfk, hcc, hfr⟩ := Kd.N_elem HN.out z45 (i : Int) (by omega) (by omega)
   obtain ⟨A1, c1, rfl, hl1, hf1⟩ := k45_openF hfk
   have hx0 := hcc 0 _ rfl
   have hx1 := hcc 1 _ rfl
   have hy0 := hfr 0
   have hy1 := hfr 1
   simp only [Int.toNat_natCast] at hx0 hx1 hy0 hy1 hl1 hf1
   have hst : ((addOut l0 a1).getD i z45).f1 = addSets l0 a1 := by unfold addSets; rw [HI.out]
   rw [hst] at hx1 hl1 hf1
   obtain ⟨o1, ho1⟩ : ∃ o1, ((addOut l0 a1).getD i z45).f0 = o1 := ⟨_, rfl⟩
   rw [ho1] at hx0
   have hX0 : wc.cell? ⟨g, i * 2, none⟩ = some (.int .i64 o1) := hx0
   have hX1 : wc.cell? ⟨g, i * 2 + 1, none⟩ = some (.slice A1 (addSets l0 a1).length c1) := hx1
   have hY1 : wc.frozen? ⟨g, i * 2 + 1, none⟩ = false := hy1
   have HO1 := Aside0.mk ho1
   clear hx0 hx1 hy0 hy1 ho1
   have HF1 := Aside0.mk hf1
   have HL1 := Aside0.mk hl1
   clear hcl hfk hcc hfr hl1 hf1 hst
   have hilt : (i : Int) < ((addOut l0 a1).length : Int) := by omega
   obtain ⟨n1, hn1⟩ : ∃ n1, n1 = (addOut l0 a1).length := ⟨_, rfl⟩
   go_wp2_with (fail)
   obtain ⟨hd, hhd⟩ : ∃ hd, decide (0 ≤ fdx (inR a2) (addSets l0 a1)) = hd := ⟨_, rfl⟩
   have HH : Aside0 (seen_holds.f (addSets l0 a1) a2 = some hd) := ⟨by unfold seen_holds.f; rw [hhd]⟩
   refine (seen_holds.calls A1 c1 (addSets l0 a1) a2 hd _ (Kd.F_now HF1.out) HL1.out HH.out).mono ?_
   rintro e w7 ⟨rfl, hb7⟩
   have HB8 := Aside0.mk (below_step HB.out hb7)
   have HN8 := Aside0.mk (Kd.N_below HN.out hb7)
   have hq8 : w7.cell? ⟨w.heap.size, 0, none⟩ = some (.int .i64 a2) := (hb7.cell (World.block_lt_of_cell? _ _ hq)).trans hq
   have HF8 := Aside0.mk (Kd.F_below HF1.out hb7)
   have HS8 := Aside0.mk (Nat.le_trans HS hb7.size)
   have hlt4 : Aside0 (w.heap.size < w4.heap.size) := ⟨World.block_lt_of_cell? _ _ hq4⟩
   clear hb7 HB HN hq HF1 hX0 hX1 hY1 hq4 hq5 HS
   cases hd with
   | true =>
    have h2 := H.out
    rw [if_pos (of_decide_eq_true hhd)] at h2
    simp only [Option.some.injEq, Prod.mk.injEq] at h2
    obtain ⟨hr1, rfl, rfl⟩ := h2
    have HV8 : Aside0 (Kd.V k45 45 w7 w.heap.size (fun k_ => (P0_ k_ ∨ w.heap.size ≤ k_)) (.slice (some ⟨g, 0, none⟩) (addOut l0 a1).length cap) r1) := ⟨by
     rw [← hr1]
     exact Kd.V_mono (Kd.N_V HN8.out) (fun k hk => hk.imp id (fun hk => Nat.le_trans (Nat.le_of_lt hlt4.out) hk))⟩
    clear hr1 hhd
    go_wp2
    go_ret3
    exact ⟨_, rfl, HV8.out, HB8.out⟩
   | false =>
    have h2 := H.out
    rw [if_neg (of_decide_eq_false hhd)] at h2
    have H2 := Aside0.mk h2
    clear h2 H hhd
    have HX := Aside0.mk (seen_ixf.calls A1 c1 (addSets l0 a1) (gtR a2) 32 #[.pointer (some ⟨w.heap.size, 0, none⟩)] w7 (Kd.F_now HF8.out) HL1.out (enters_ Try.func32 rfl rfl)
     (fun W x hb => seen_Add_1.calls w.heap.size a2 x W ((hb.cell (World.block_lt_of_cell? _ _ hq8)).trans hq8)))
    go_wp2_with (fail)
    refine HX.out.mono ?_
    rintro e w9 ⟨rfl, hb9⟩
    have HB9 := Aside0.mk (below_step HB8.out hb9)
    have HN9 := Aside0.mk (Kd.N_below HN8.out hb9)
    have hq9 : w9.cell? ⟨w.heap.size, 0, none⟩ = some (.int .i64 a2) := (hb9.cell (World.block_lt_of_cell? _ _ hq8)).trans hq8
    have HF9 := Aside0.mk (Kd.F_below HF8.out hb9)
    have HS9 := Aside0.mk (Nat.le_trans HS8.out hb9.size)
    clear hb9 HB8 HN8 hq8 HF8 HS8 HX
    have LS := Aside0.mk (Nat.le_trans hlen.2 (by decide : 1000 ≤ 1000000))
    obtain ⟨at_, hat⟩ : ∃ q, addAt (addSets l0 a1) a2 = q := ⟨_, rfl⟩
    obtain ⟨ix, hix⟩ : ∃ ix, fdx (gtR a2) (addSets l0 a1) = ix := ⟨_, rfl⟩
    have HAT : Aside0 (at_ = if ix < 0 then (addSets l0 a1).length else ix.toNat) := ⟨by rw [← hat, ← hix]; rfl⟩
    have HIXL : Aside0 (ix < (addSets l0 a1).length ∧ -1 ≤ ix) := ⟨by rw [← hix]; unfold fdx; split <;> omega⟩
    have HATL : Aside0 (at_ ≤ (addSets l0 a1).length) := ⟨by have h1 := HAT.out; have h3 := HIXL.out; split at h1 <;> omega⟩
    have h3 := H2.out
    rw [hat] at h3
    obtain ⟨s, hs, h3⟩ := Option.bind_eq_some_iff.mp h3
    obtain ⟨m, hm, h3⟩ := Option.bind_eq_some_iff.mp h3
    obtain ⟨L, hL⟩ : ∃ L, (addSets l0 a1).take at_ ++ [⟨a2, a2⟩] ++ (addSets l0 a1).drop at_ = L := ⟨_, rfl⟩
    rw [hL] at hs
    have HLL := Aside0.mk hL
    clear hL
    have HJ := Aside0.mk hs
    have HM := Aside0.mk hm
    have H3 := Aside0.mk h3
    rw [hix]
    clear h3 hs hm H2 hat hix
    have HILT := Aside0.mk hilt
    have HIL2 := Aside0.mk hlen'
    have HGW : Aside0 (w.heap.size ≠ g) := ⟨by have := hlt4.out; omega⟩
    have HGE : Aside0 (w.heap.size ≤ g) := ⟨by have := hlt4.out; omega⟩
    clear hlen' hilt hno hlen hgc hn1 hg1
    go_upto_if 56 with (fail)
    go_cut [13] (fun v13 wc => v13 = .int .i64 (at_ : Int) ∧ w9 = wc)
    case first =>
     by_cases hneg : ix < 0
     ·have ha : Aside0 ((at_ : Int) = ((addSets l0 a1).length : Int)) := ⟨by have h1 := HAT.out; rw [if_pos hneg] at h1; omega⟩
      go_wp2
      go_meet
      case rel => exact ⟨by rw [ha.out], rfl⟩
     ·have ha : Aside0 ((at_ : Int) = ix) := ⟨by have h1 := HAT.out; rw [if_neg hneg] at h1; omega⟩
      go_wp2
      go_meet
      case rel => exact ⟨by rw [ha.out], rfl⟩
    case rest =>
     obtain ⟨rfl, rfl⟩ := hcut
     have hu47 := Try.underlying47
     have hu43 := Try.underlying43
     have HN10 := Aside0.mk (Kd.N_drew HN9.out)
     have HF10 := Aside0.mk (Kd.F_drew HF9.out)
     have HB10 := Aside0.mk (below_drew1 HB9.out)
     have HS10 : Aside0 (w4.heap.size ≤ w9.drew.heap.size) := ⟨HS9.out⟩
     clear HN9 HF9 HB9 HS9
     have HILN := Aside0.mk (show (i : Int) < ((addOut l0 a1).length : Int) from HILT.out)
     have hi1 : (i : Int) < ((addOut l0 a1).length : Int) := HILT.out
     have hi0 : (0 : Int) ≤ (i : Int) := by omega
     go_wp2_with (fail)
     refine start_ (n := 14) (S := (fun w' => w'.cell? ⟨w.heap.size, 0, none⟩ = some (.int .i64 a2))) (ds := []) #[false, false, false, false, false, false, false, false, false, false, false, false, false, false] (by kernel_rfl) rfl rfl hq9 (fun hHeld => ?_)
     generalize w9.drew = W10 at HN10 HF10 HB10 HS10 hHeld ⊢
     have HBL := Aside0.mk (World.block_lt_of_cell? _ _ hHeld)
     refine pure_ (i := 0) (N := some 59) (v := ?_) (a' := ?_) #[true, false, false, false, false, false, false, false, false, false, false, false, false, false] rfl rfl (by kernel_rfl) (fun _ _ _ h => h) (Or.inl ⟨by rfl, ?_⟩) ?_ ?_
     rotate_left
     ·intro w'
      go_simp
      with_reducible rfl
     rotate_left
     ·simp only [Act.put, List.setIfInBounds_toArray, List.set_cons_zero, List.set_cons_succ, i64_w, i32_w]
      rfl
     refine pure_ (i := 1) (N := some 60) (v := ?_) (a' := ?_) #[true, true, false, false, false, false, false, false, false, false, false, false, false, false] rfl rfl (by kernel_rfl) (fun _ _ _ h => h) (Or.inl ⟨by rfl, ?_⟩) ?_ ?_
     rotate_left
     ·intro w'
      go_simp
      with_reducible rfl
     rotate_left
     ·simp only [Act.put, List.setIfInBounds_toArray, List.set_cons_zero, List.set_cons_succ, i64_w, i32_w]
      rfl
     refine pure_ (i := 2) (N := some 61) (v := ?_) (a' := ?_) #[true, true, true, false, false, false, false, false, false, false, false, false, false, false] rfl rfl (by kernel_rfl) (fun _ _ _ h => h) (Or.inl ⟨by rfl, ?_⟩) ?_ ?_
     rotate_left
     ·intro w'
      go_simp
      with_reducible rfl
     rotate_left
     ·simp only [Act.put, List.setIfInBounds_toArray, List.set_cons_zero, List.set_cons_succ, i64_w, i32_w]
      rfl
     refine pure_ (i := 4) (N := some 63) (v := ?_) (a' := ?_) #[true, true, true, false, true, false, false, false, false, false, false, false, false, false] rfl rfl (by kernel_rfl) (fun _ _ _ h => h) (Or.inl ⟨by rfl, ?_⟩) ?_ ?_
     rotate_left
     ·intro w'
      go_simp
      with_reducible rfl
     rotate_left
     ·simp only [Act.put, List.setIfInBounds_toArray, List.set_cons_zero, List.set_cons_succ, i64_w, i32_w]
      rfl
     refine take_ (i := 5) (N := some 64) (v := ?_) (a' := ?_) #[true, true, true, false, true, true, false, false, false, false, false, false, false, false] rfl rfl (by kernel_rfl) (fun _ _ _ h => h) (Or.inl ⟨by rfl, ?_⟩) hHeld ?_ ?_
     rotate_left
     ·rintro w' s0
      go_simp
      with_reducible rfl
     rotate_left
     ·simp only [Act.put, List.setIfInBounds_toArray, List.set_cons_zero, List.set_cons_succ, i64_w, i32_w]
      rfl
     refine take_ (i := 6) (N := some 65) (v := ?_) (a' := ?_) #[true, true, true, false, true, true, true, false, false, false, false, false, false, false] rfl rfl (by kernel_rfl) (fun _ _ _ h => h) (Or.inl ⟨by rfl, ?_⟩) hHeld ?_ ?_
     rotate_left
     ·rintro w' s0
      go_simp
      with_reducible rfl
     rotate_left
     ·simp only [Act.put, List.setIfInBounds_toArray, List.set_cons_zero, List.set_cons_succ, i64_w, i32_w]
      rfl
     refine pure_ (i := 7) (N := some 66) (v := ?_) (a' := ?_) #[true, true, true, false, true, true, true, true, false, false, false, false, false, false] rfl rfl (by kernel_rfl) (fun _ _ _ h => h) (Or.inl ⟨by rfl, ?_⟩) ?_ ?_
     rotate_left
     ·intro w'
      go_simp
      with_reducible rfl
     rotate_left
     ·simp only [Act.put, List.setIfInBounds_toArray, List.set_cons_zero, List.set_cons_succ, i64_w, i32_w]
      rfl
     refine join_ (σ := Nat × Value) 5 #[true, true, true, true, true, true, true, true, true, false, false, false, false, false] (fun s => [(62, s.2), (67, .slice (some ⟨s.1, 0, none⟩) 1 1)]) (fun s w' => w'.cell? ⟨w.heap.size, 0, none⟩ = some (.int .i64 a2) ∧ Aside0 (Kd.N k47 47 w' W10.heap.size (fun k => ((P0_ k ∨ w4.heap.size ≤ k) ∧ k ≠ g) ∨ W10.heap.size ≤ k) s.2 (addSets l0 a1)) ∧ Aside0 (w'.heap[s.1]? = some (.cells #[.int .i64 a2, .int .i64 a2] 47 (0, 0))) ∧ Aside0 (Below W10.heap.size W10 w') ∧ Aside0 (some s.1 ≠ s.2.ownBlock) ∧ Aside0 (W10.heap.size ≤ s.1)) (fun s w' hF => ?_) (fun hJ => ?_)
     rotate_left
     ·refine two_ (i := 3) (j := 8) (Ni := some 62) (Nj := some 67) #[true, true, true, true, true, true, true, true, false, false, false, false, false, false] #[true, true, true, false, true, true, true, true, true, false, false, false, false, false] rfl rfl rfl rfl (by kernel_rfl) (by decide) (by decide) (fun K hK => ?_) (fun K hK => ?_)
      ·refine goes_ Try.func35 (by kernel_rfl) rfl #[.slice A1 (addSets l0 a1).length c1] (by rfl) rfl rfl (by simp only [List.map_toArray, List.map_cons, List.map_nil]; rfl) ?_
       refine (seen_cloneR_calls (fun k => (P0_ k ∨ w4.heap.size ≤ k) ∧ k ≠ g) A1 c1 (addSets l0 a1) _ HF10.out HL1.out LS.out).mono ?_
       rintro e w11 ⟨v62, rfl, hN11, hb11⟩
       refine ⟨_, rfl, ?_⟩
       refine hK.out _ _ ((hb11.cell (World.block_lt_of_cell? _ _ hHeld)).trans hHeld) (fun hHeld => ?_)
       clear hK K
       have HN11 := Aside0.mk hN11
       have HX11 := Aside0.mk hb11
       clear hN11 hb11
       refine norm_ (a' := ?_) ?_ ?_
       rotate_left
       ·simp only [Act.put, putAll, List.setIfInBounds_toArray, List.set_cons_zero, List.set_cons_succ, i64_w, i32_w]
        rfl
       refine one_ (i := 8) (N := some 67) #[true, true, true, true, true, true, true, true, true, false, false, false, false, false] rfl rfl (by kernel_rfl) (by decide) (fun K hK => ?_)
       refine yield_ (v := .slice (some ⟨w11.heap.size, 0, none⟩) 1 1) (w1 := w11.alloc (.cells #[.int .i64 a2, .int .i64 a2] 47)) (by rfl) rfl ?_ ?_
       ·go_simp
       refine hK.out _ _ (by rw [World.cell?_alloc_lt _ _ _ (World.block_lt_of_cell? _ _ hHeld)]; exact hHeld) (fun hHeld => ?_)
       clear hK K
       refine norm_ ?_ (hJ (w11.heap.size, v62) _ ⟨hHeld, ⟨Kd.N_alloc HN11.out _⟩, ⟨heap_alloc_new w11 _⟩, ⟨HX11.out.alloc HX11.out.size _⟩, ⟨fun he => Nat.lt_irrefl _ (Kd.N_lt HN11.out _ he.symm)⟩, ⟨HX11.out.size⟩⟩)
       simp only [Act.put, putAll, List.setIfInBounds_toArray, List.set_cons_zero, List.set_cons_succ, i64_w, i32_w]
      ·refine yield_ (v := .slice (some ⟨W10.heap.size, 0, none⟩) 1 1) (w1 := W10.alloc (.cells #[.int .i64 a2, .int .i64 a2] 47)) (by rfl) rfl ?_ ?_
       ·go_simp
       refine hK.out _ _ (by rw [World.cell?_alloc_lt _ _ _ (World.block_lt_of_cell? _ _ hHeld)]; exact hHeld) (fun hHeld => ?_)
       clear hK K
       have HFA := Aside0.mk (Kd.F_alloc HF10.out (.cells #[.int .i64 a2, .int .i64 a2] 47))
       have HNA : Aside0 ((W10.alloc (.cells #[.int .i64 a2, .int .i64 a2] 47)).heap[W10.heap.size]? = some (.cells #[.int .i64 a2, .int .i64 a2] 47 (0, 0))) := ⟨heap_alloc_new W10 _⟩
       have HBA := Aside0.mk (below_alloc (Below.refl W10.heap.size W10) (.cells #[.int .i64 a2, .int .i64 a2] 47))
       have HSA : Aside0 (W10.heap.size < (W10.alloc (.cells #[.int .i64 a2, .int .i64 a2] 47)).heap.size) := ⟨by show W10.heap.size < (W10.heap.push _).size; simp⟩
       refine norm_ (a' := ?_) ?_ ?_
       rotate_left
       ·simp only [Act.put, putAll, List.setIfInBounds_toArray, List.set_cons_zero, List.set_cons_succ, i64_w, i32_w]
        rfl
       generalize W10.alloc (.cells #[.int .i64 a2, .int .i64 a2] 47) = WA at HFA HNA HBA HSA hHeld ⊢
       refine one_ (i := 3) (N := some 62) #[true, true, true, true, true, true, true, true, true, false, false, false, false, false] rfl rfl (by kernel_rfl) (by decide) (fun K hK => ?_)
       refine goes_ Try.func35 (by kernel_rfl) rfl #[.slice A1 (addSets l0 a1).length c1] (by rfl) rfl rfl (by simp only [List.map_toArray, List.map_cons, List.map_nil]; rfl) ?_
       refine (seen_cloneR_calls (fun k => (P0_ k ∨ w4.heap.size ≤ k) ∧ k ≠ g) A1 c1 (addSets l0 a1) _ HFA.out HL1.out LS.out).mono ?_
       rintro e w11 ⟨v62, rfl, hN11, hb11⟩
       refine ⟨_, rfl, ?_⟩
       refine hK.out _ _ ((hb11.cell (World.block_lt_of_cell? _ _ hHeld)).trans hHeld) (fun hHeld => ?_)
       clear hK K
       refine norm_ ?_ (hJ (W10.heap.size, v62) _ ⟨hHeld, ⟨Kd.N_mono (Kd.N_lower hN11 (Nat.le_of_lt HSA.out)) (fun k hk => hk.imp id (fun h => Nat.le_trans (Nat.le_of_lt HSA.out) h))⟩, ⟨(hb11.block _ HSA.out).trans HNA.out⟩, ⟨below_step HBA.out hb11⟩, ⟨fun he => Nat.lt_irrefl _ (Nat.lt_of_lt_of_le HSA.out (Kd.N_base hN11 _ he.symm))⟩, ⟨Nat.le_refl _⟩⟩)
       simp only [Act.put, putAll, List.setIfInBounds_toArray, List.set_cons_zero, List.set_cons_succ, i64_w, i32_w]
     obtain ⟨vb, v62⟩ := s
     obtain ⟨hHeld, HN12, HH12, HX12, HNE, HVB⟩ := hF
     generalize w' = w12 at hHeld HN12 HH12 HX12 ⊢
     refine norm_ (a' := ?_) ?_ ?_
     rotate_left
     ·simp only [Act.put, putAll, List.setIfInBounds_toArray, List.set_cons_zero, List.set_cons_succ, i64_w, i32_w]
      rfl
     refine one_ (i := 9) (N := some 68) #[true, true, true, true, true, true, true, true, true, true, false, false, false, false] rfl rfl (by kernel_rfl) (by decide) (fun K hK => ?_)
     refine goes_ Try.func34 (by kernel_rfl) rfl #[v62, .int .i64 (at_ : Int), .slice (some ⟨vb, 0, none⟩) 1 1] (by rfl) rfl rfl (by simp only [List.map_toArray, List.map_cons, List.map_nil]; rfl) ?_
     refine (seen_insR_calls W10.heap.size vb (fun k => ((P0_ k ∨ w4.heap.size ≤ k) ∧ k ≠ g) ∨ W10.heap.size ≤ k) (fun k => k = vb) v62 (addSets l0 a1) ⟨a2, a2⟩ (.int .i64 a2) (.int .i64 a2) at_ _ HN12.out HX12.out.size LS.out HATL.out HH12.out HNE.out (k47_mkF _ _ ⟨a2, a2⟩) (one_F rfl HH12.out rfl (k47_mkF _ _ ⟨a2, a2⟩)) (fun k hk => ⟨.inr (by rw [hk]; exact HVB.out), fun he => HNE.out (by rw [← hk]; exact he)⟩) (fun k hk => .inr (Nat.le_trans HX12.out.size hk))).mono ?_
     rintro e w13 ⟨v68, rfl, hN13, hb13, hz1, hz2⟩
     refine ⟨_, rfl, ?_⟩
     rw [HLL.out] at hN13
     refine hK.out _ _ ((hb13.cell HBL.out).trans hHeld) (fun hHeld => ?_)
     clear hK K
     have HN13 := Aside0.mk hN13
     have HX13 := Aside0.mk (HX12.out.trans hb13)
     clear hz1 hz2 hN13 hb13 HX12 HN12 HH12 HNE HVB
     obtain ⟨A8, c8, rfl, hl8, hC8⟩ := Kd.N_reads HN13.out
     have HL8 := Aside0.mk hl8
     have HC8 := Aside0.mk hC8
     clear hl8 hC8
     refine norm_ (a' := ?_) ?_ ?_
     rotate_left
     ·simp only [Act.put, List.setIfInBounds_toArray, List.set_cons_zero, List.set_cons_succ, i64_w, i32_w]
      rfl
     refine one_ (i := 10) (N := some 69) #[true, true, true, true, true, true, true, true, true, true, true, false, false, false] rfl rfl (by kernel_rfl) (by decide) (fun K hK => ?_)
     refine goes_ Try.func33 (by kernel_rfl) rfl #[.slice A8 L.length c8] (by rfl) rfl rfl (by simp only [List.map_toArray, List.map_cons, List.map_nil]; rfl) ?_
     refine (seen_join.calls k A8 c8 L s _ HC8.out HL8.out HJ.out).mono ?_
     rintro e w14 ⟨v69, rfl, hR14, hb14⟩
     obtain ⟨A9, c9, rfl⟩ := Kd.R_slice hR14
     refine ⟨_, rfl, ?_⟩
     refine hK.out _ _ ((hb14.cell (World.block_lt_of_cell? _ _ hHeld)).trans hHeld) (fun hHeld => ?_)
     clear hK K
     have HR14 := Aside0.mk hR14
     have HX14 := Aside0.mk (below_step HX13.out hb14)
     have HS13 := Aside0.mk HX13.out.size
     clear hR14 hb14 HX13 HN13 HC8 HL8
     have HN14 := Aside0.mk (Kd.N_below HN10.out HX14.out)
     have HB14 := Aside0.mk (below_step HB10.out HX14.out)
     obtain ⟨ce, hcl, hfk, hcc, hfr⟩ := Kd.N_elem HN14.out z45 (i : Int) (by omega) HILT.out
     obtain ⟨A5, c5, rfl, hz1, hz2⟩ := k45_openF hfk
     clear hz1 hz2
     rw [Int.toNat_natCast, HO1.out] at hfk hcc
     rw [Int.toNat_natCast] at hfr
     have HCC := Aside0.mk hcc
     have HFK := Aside0.mk hfk
     have hX1 : ∃ u, w14.cell? ⟨g, i * 2 + 1, none⟩ = some u := ⟨_, hcc 1 _ rfl⟩
     obtain ⟨u1, hX1⟩ := hX1
     have hY1 : w14.frozen? ⟨g, i * 2 + 1, none⟩ = false := hfr 1
     clear hcl hfk hcc hfr
     refine norm_ (a' := ?_) ?_ ?_
     rotate_left
     ·simp only [Act.put, List.setIfInBounds_toArray, List.set_cons_zero, List.set_cons_succ, i64_w, i32_w]
      rfl
     refine pure_ (i := 11) (N := some 70) (v := ?_) (a' := ?_) #[true, true, true, true, true, true, true, true, true, true, true, true, false, false] rfl rfl (by kernel_rfl) (fun _ _ _ h => h) (Or.inl ⟨by rfl, ?_⟩) ?_ ?_
     rotate_left
     ·intro w'
      go_simp
      with_reducible rfl
     rotate_left
     ·simp only [Act.put, List.setIfInBounds_toArray, List.set_cons_zero, List.set_cons_succ, i64_w, i32_w]
      rfl
     refine pure_ (i := 12) (N := some 71) (v := ?_) (a' := ?_) #[true, true, true, true, true, true, true, true, true, true, true, true, true, false] rfl rfl (by kernel_rfl) (fun _ _ _ h => h) (Or.inl ⟨by rfl, ?_⟩) ?_ ?_
     rotate_left
     ·intro w'
      go_simp
      with_reducible rfl
     rotate_left
     ·simp only [Act.put, List.setIfInBounds_toArray, List.set_cons_zero, List.set_cons_succ, i64_w, i32_w]
      rfl
     refine one_ (i := 13) (N := none) #[true, true, true, true, true, true, true, true, true, true, true, true, true, true] rfl rfl (by kernel_rfl) (by decide) (fun K hK => ?_)
     refine skip_ (w1 := w14.setCell ⟨g, i * 2 + 1, none⟩ (.slice A9 s.length c9)) (by rfl) rfl ?_ ?_
     ·go_simp
     refine hK.out _ _ (by have hh := Below.heap_setCell w14 ⟨g, i * 2 + 1, none⟩ (.slice A9 s.length c9) w.heap.size HGW.out; have hk := hHeld; unfold World.cell? at hk ⊢; rw [hh]; exact hk) (fun hHeld => ?_)
     clear hK K
     refine done_ (by kernel_rfl) ?_
     have HN15 : Aside0 (Kd.N k45 45 (w14.setCell ⟨g, i * 2 + 1, none⟩ (.slice A9 s.length c9)) w4.heap.size (fun k => P0_ k ∨ w4.heap.size ≤ k) (.slice (some ⟨g, 0, none⟩) (addOut l0 a1).length cap) ((addOut l0 a1).set i ⟨o1, s⟩)) := ⟨by
      have hx : Kd.FK k45 w14 (fun k => w13.heap.size ≤ k) ⟨o1, s⟩ [.int .i64 o1, .slice A9 s.length c9] := k45_mkF _ _ ⟨o1, s⟩ (Kd.R_reads' HR14.out).2.1 (Kd.R_F (Kd.R_mono (Kd.R_bound HR14.out) (fun _ hk => hk.2.1)))
      have hgl : g < W10.heap.size := Kd.N_lt HN10.out g rfl
      have h4 := HS10.out
      have h13 := HS13.out
      have hc : ∀ j u, [Value.int .i64 o1, .slice A5 ((addOut l0 a1).getD i z45).f1.length c5][j]? = some u → w14.cell? ⟨g, (i : Int).toNat * k45.sz + j, none⟩ = some u := by rw [Int.toNat_natCast]; exact HCC.out
      exact (Kd.N_seg HN14.out (i : Int) (by omega) HILT.out (seg := [.slice A9 s.length c9]) (j := 1) rfl hc (Nat.le_refl 2) hx (fun k hk => ⟨.inr (by omega), by omega⟩)).1⟩
     have HB15 := Aside0.mk (below_set (j := i * 2 + 1) (v := .slice A9 s.length c9) HB14.out HGE.out)
     generalize w14.setCell ⟨g, i * 2 + 1, none⟩ (.slice A9 s.length c9) = w15 at HN15 HB15 ⊢
     clear hHeld hX1 hY1 HCC HFK HR14 HX14 HS13 HN14 HB14 HN10 HF10 HB10 HS10 HH hu47 hu43
     have hm2 := HM.out
     have h3 := H3.out
     rw [HI.out, HO1.out] at hm2 h3
     obtain ⟨y, hy⟩ : ∃ y, (addOut l0 a1).set i ⟨o1, s⟩ = y := ⟨_, rfl⟩
     rw [hy] at hm2 h3 HN15
     have hr := Kd.N_reads' HN15.out
     have HC36 := Aside0.mk (seen_many.calls k (some ⟨g, 0, none⟩) cap y m w15 hr.2.2 (hr.1 ▸ hr.2.1) hm2)
     rw [← hr.1] at HC36
     have H3 := Aside0.mk h3
     clear hm2 h3 hr hy HM
     go_wp2_with (fail)
     refine HC36.out.mono ?_
     rintro e w16 ⟨rfl, hb16⟩
     have HN16 := Aside0.mk (Kd.N_below HN15.out hb16)
     have HB16 := Aside0.mk (below_step HB15.out hb16)
     clear hb16 HC36 HN15 HB15
     by_cases hm : m > 64
     ·have h3 := H3.out
      rw [if_pos hm] at h3
      simp only [Option.some.injEq, Prod.mk.injEq] at h3
      obtain ⟨rfl, rfl, rfl⟩ := h3
      go_wp2
      go_ret3
      exact ⟨.slice none 0 0, rfl, ⟨none, 0, rfl, Nat.le_refl _, Kd.F_nil _ _ _⟩, HB16.out⟩
     ·have h3 := H3.out
      rw [if_neg hm] at h3
      simp only [Option.some.injEq, Prod.mk.injEq] at h3
      obtain ⟨hr1, rfl, rfl⟩ := h3
      have HV16 : Aside0 (Kd.V k45 45 w16 w.heap.size (fun k_ => (P0_ k_ ∨ w.heap.size ≤ k_)) (.slice (some ⟨g, 0, none⟩) (addOut l0 a1).length cap) r1) := ⟨by
       rw [← hr1]
       exact Kd.V_mono (Kd.N_V HN16.out) (fun k hk => hk.imp id (fun hk => Nat.le_trans (Nat.le_of_lt hlt4.out) hk))⟩
      clear hr1
      go_wp2
      go_ret3
      exact ⟨_, rfl, HV16.out, HB16.out⟩
 ·rw [if_neg hcond] at h
  simp only [Option.some.injEq, Prod.mk.injEq] at h
  obtain ⟨rfl, rfl, rfl⟩ := h
  go_enter Try.func11, Try.ntmps11
  go_wp2_with (fail)
  refine (seen_Valid.calls k A0 c0 l0 vv _ (Kd.C_below (Kd.F_now HF0.out) HBW.out) HC0.out HV.out).mono ?_
  rintro e w1 ⟨rfl, hb1⟩
  have HB1 := Aside0.mk (below_step HBW.out hb1)
  have hq1 : w1.cell? ⟨w.heap.size, 0, none⟩ = some (.int .i64 a2) := (hb1.cell (World.block_lt_of_cell? _ _ hq0)).trans hq0
  clear hb1 hq0
  cases vv with
  | false =>
   go_wp2
   go_ret3
   exact ⟨.slice none 0 0, rfl, ⟨none, 0, rfl, Nat.le_refl _, Kd.F_nil _ _ _⟩, HB1.out⟩
  | true =>
   obtain ⟨t1, ht1⟩ : ∃ t1, decide (0 ≤ a1 ∧ a1 ≤ 59) = t1 := ⟨_, rfl⟩
   have HT1 := Aside0.mk (seen_between.ev a1 0 59 t1 ht1)
   go_wp2_with (fail)
   refine (seen_between.calls a1 0 59 t1 _ HT1.out).mono ?_
   rintro e w2 ⟨rfl, ⟨n2, rfl⟩⟩
   cases t1 with
   | false =>
    go_wp2
    go_ret3
    exact ⟨.slice none 0 0, rfl, ⟨none, 0, rfl, Nat.le_refl _, Kd.F_nil _ _ _⟩, pw_below_drewN HB1.out _⟩
   | true =>
    have ht2 : decide (1 ≤ a2 ∧ a2 ≤ 1000000000) = false := decide_eq_false (fun hh => hcond ⟨by simp, of_decide_eq_true ht1, hh⟩)
    have HT2 := Aside0.mk (seen_between.ev a2 1 1000000000 false ht2)
    clear ht1 ht2 hcond
    go_wp2_with (fail)
    refine (seen_between.calls a2 1 1000000000 false _ HT2.out).mono ?_
    rintro e w3 ⟨rfl, ⟨n3, rfl⟩⟩
    go_wp2
    go_ret3
    exact ⟨.slice none 0 0, rfl, ⟨none, 0, rfl, Nat.le_refl _, Kd.F_nil _ _ _⟩, pw_below_drewN HB1.out _⟩

end Go.Proofs.Ytjibgfihfbdcaaa.PSeen
