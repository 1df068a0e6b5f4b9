/- Words of this session: an argument that can be read as data, and whose parts weigh no more than the reach, is of its kind (numbers, bools, slices, structs, nested). -/
import Derived.Test.YtjibgfihfbdcaaaXWords
import Derived.Deep.Slices
import Derived.ChangeArms
import Derived.OpenShut
namespace Go.Proofs.YtjibgfihfbdcaaaW.PrintWords
open Go.RowKit Go.Deep
set_option linter.unusedVariables false
/-- All that it weighs is within the reach. -/
def Light {H : Type} (P : Program) (t : TypeId) (x : DataW H) : Prop := ∀ n ∈ DataW.weights P t x, n ≤ 140737488351232
theorem mem_weightsAll {H : Type} {P : Program} {e : TypeId} {n : Nat} : ∀ {l : List (DataW H)} {d : DataW H}, d ∈ l → n ∈ DataW.weights P e d → n ∈ DataW.weightsAll P e l
  | x :: xs, d, hd, hn => by
    rw [DataW.weightsAll, List.mem_append]
    rcases List.mem_cons.1 hd with rfl | hd
    · exact .inl hn
    · exact .inr (mem_weightsAll hd hn)
theorem mem_weightsEach {H : Type} {P : Program} {n : Nat} : ∀ {ts : List TypeId} {ds : List (DataW H)} {j : Nat} {t : TypeId} {d : DataW H}, ts[j]? = some t → ds[j]? = some d → n ∈ DataW.weights P t d → n ∈ DataW.weightsEach P ts ds
  | t0 :: ts, d0 :: ds, 0, t, d, ht, hd, hn => by
    rw [DataW.weightsEach, List.mem_append]
    simp only [List.getElem?_cons_zero, Option.some.injEq] at ht hd
    subst ht
    subst hd
    exact .inl hn
  | t0 :: ts, d0 :: ds, j + 1, t, d, ht, hd, hn => by
    rw [DataW.weightsEach, List.mem_append]
    simp only [List.getElem?_cons_succ] at ht hd
    exact .inr (mem_weightsEach ht hd hn)
  | [], _, _, _, _, ht, _, _ => by simp at ht
  | _ :: _, [], _, _, _, _, hd, _ => by simp at hd
theorem light_at {H : Type} {P : Program} {ts : List TypeId} {ds : List (DataW H)} (hsz : (DataW.weightsEach P ts ds).all (· ≤ reachBytes) = true) {j : Nat} {t : TypeId} {d : DataW H} (ht : ts[j]? = some t) (hd : ds[j]? = some d) : Light P t d := fun n hn => by
  have h := List.all_eq_true.1 hsz n (mem_weightsEach ht hd hn)
  have h2 := of_decide_eq_true h
  unfold reachBytes at h2
  omega
def OpensZ {α : Type} (P : Program) (t : TypeId) (d : Kd α) (ok : α → Prop) : Prop :=
  ∀ (H : Type) (enc : TypeId × Value → H) (W : World) (base : Nat) (spare : Nat → Bool) (held : Bool) (fuel : Nat) (cs : List Value) (x : DataW H × List MemPlace), DataW.trod enc P W base spare held fuel t cs = some x → Light P t x.1 → ∃ a, d.K W a cs ∧ ok a
def OpensZF {α : Type} (P : Program) (fs : List Field) (off total : Nat) (d : Kd α) (ok : α → Prop) : Prop :=
  ∀ (H : Type) (enc : TypeId × Value → H) (W : World) (base : Nat) (spare : Nat → Bool) (held : Bool) (fuel : Nat) (cs : List Value), cs.length = total →
    (∀ f, f ∈ fs → ∃ x, DataW.trod enc P W base spare held fuel f.type ((cs.drop f.offset).take (P.cellsOf f.type)) = some x ∧ Light P f.type x.1) → ∃ a, d.K W a (cs.drop off) ∧ ok a
section
variable {α β : Type} {P : Program} {t e : TypeId} {d : Kd α} {d' : Kd β} {ok ok2 : α → Prop} {ok' : β → Prop}
theorem OpensZ.mono (h : OpensZ P t d ok) (hk : ∀ a, ok a → ok2 a) : OpensZ P t d ok2 := fun H enc W base spare held fuel cs x hx hz => by
  obtain ⟨a, h1, h2⟩ := h H enc W base spare held fuel cs x hx hz
  exact ⟨a, h1, hk a h2⟩
theorem OpensZ.int {k : IntKind} (ht : P.underlying t = some (.int k)) : OpensZ P t (Kd.int k) (fun n => (Lit.int k n).wf = true) := fun H enc W base spare held fuel cs x hx _ => by
  obtain ⟨n, rfl, _, hw⟩ := DataW.trod_int ht hx
  exact ⟨n, rfl, hw⟩
theorem OpensZ.bool (ht : P.underlying t = some .bool) : OpensZ P t Kd.bool (fun _ => True) := fun H enc W base spare held fuel cs x hx _ => by
  obtain ⟨b, rfl, _⟩ := DataW.trod_bool ht hx
  exact ⟨b, rfl, trivial⟩
theorem OpensZ.iso (h : OpensZ P t d ok) (f : β → α) (g : α → β) (hg : ∀ a, f (g a) = a) : OpensZ P t (Kd.iso d f) (fun b => ok (f b)) := fun H enc W base spare held fuel cs x hx hz => by
  obtain ⟨a, h1, h2⟩ := h H enc W base spare held fuel cs x hx hz
  exact ⟨g a, by show d.K W (f (g a)) cs; rw [hg]; exact h1, by show ok (f (g a)); rw [hg]; exact h2⟩
theorem list_of_allZ {γ : Type} {p : Nat → γ → Prop} : ∀ (n : Nat), (∀ i, i < n → ∃ a, p i a) → ∃ xs : List γ, xs.length = n ∧ ∀ i a, xs[i]? = some a → p i a
  | 0, _ => ⟨[], rfl, fun i a h => by simp at h⟩
  | n + 1, h => by
    obtain ⟨xs, hl, hx⟩ := list_of_allZ n (fun i hi => h i (by omega))
    obtain ⟨a, ha⟩ := h n (by omega)
    refine ⟨xs ++ [a], by simp [hl], fun i b hb => ?_⟩
    rcases Nat.lt_or_ge i xs.length with hi | hi
    · rw [List.getElem?_append_left hi] at hb
      exact hx i b hb
    · rw [List.getElem?_append_right hi] at hb
      have hlt := (List.getElem?_eq_some_iff.1 hb).1
      have : i = n := by simp at hlt; omega
      subst this
      rw [hl, Nat.sub_self] at hb
      injection hb with hb
      subst hb
      exact ha
theorem OpensZ.slice {B : Nat} (ht : P.underlying t = some (.slice e)) (hs : P.cellsOf e = d.sz) (hB : P.bytesOf e = B) (h : OpensZ P e d ok) : OpensZ P t (Kd.slice e d) (fun xs => xs.length * B ≤ 140737488351232 ∧ ∀ a ∈ xs, ok a) := fun H enc W base spare held fuel cs x hx hz => by
  rcases open_slice ht hx with ⟨rfl, _⟩ | ⟨a, len, cap, m, n, D, Pl, rfl, hb, hlc, hcm, hm, hxx, hi⟩
  · exact ⟨[], ⟨none, 0, rfl, by simp, by simp, by simp, fun h0 => by simp at h0⟩, by simp, by simp⟩
  · have hlm : len ≤ m := by rw [hm]; split <;> omega
    subst hxx
    unfold Light at hz
    simp only [DataW.weights, ht, List.mem_cons, List.mem_append] at hz
    have hz0 := hz _ (.inl rfl)
    rw [hB, List.length_map, List.length_range, List.length_map, List.length_range, show len + (m - len) = m by omega] at hz0
    obtain ⟨xs, hl, hp⟩ := list_of_allZ (p := fun i b => ∃ cs', W.cells? base (a.add (i * P.cellsOf e)) (P.cellsOf e) = some cs' ∧ d.K W b cs' ∧ ok b) len (fun i hlt => by
      obtain ⟨cs', h1, h2⟩ := hi i (by omega)
      obtain ⟨b, h3, h4⟩ := h H enc W base spare held n cs' _ h2 (fun q hq => hz q (.inr (.inl (mem_weightsAll (List.mem_map.2 ⟨i, List.mem_range.2 hlt, rfl⟩) hq))))
      exact ⟨b, cs', h1, h3, h4⟩)
    subst hl
    refine ⟨xs, ⟨some a, cap, rfl, hlc, rfl, ?_, fun _ => ⟨a, rfl, fun j p hj => ?_⟩⟩, Nat.le_trans (Nat.mul_le_mul_right _ hlm) hz0, fun b hb => ?_⟩
    · have := hcm; simp only [maxLen] at this; omega
    · obtain ⟨cs', h1, h2, _⟩ := hp j p hj
      obtain ⟨_, hcl, hat⟩ := World.cells?_some h1
      refine ⟨cs', by rw [hcl, hs], h2, fun i u hu => ?_⟩
      have hil : i < cs'.length := (List.getElem?_eq_some_iff.1 hu).1
      have := hat i (by omega)
      rw [hu] at this
      rw [← hs, ← this]
      congr 1
      unfold Addr.add
      by_cases h1 : j * P.cellsOf e = 0 <;> by_cases h2 : i = 0 <;> simp [h1, h2, Nat.add_assoc]
    · obtain ⟨j, hj⟩ := List.getElem?_of_mem hb
      obtain ⟨_, _, _, h4⟩ := hp j b hj
      exact h4
theorem OpensZF.last {f : Field} {off total : Nat} (hf : f.offset = off) (hsz : off + P.cellsOf f.type = total) (h : OpensZ P f.type d ok) : OpensZF P [f] off total d ok := fun H enc W base spare held fuel cs hl hx => by
  obtain ⟨x, hx, hz⟩ := hx f (by simp)
  rw [hf, List.take_of_length_le (by rw [List.length_drop]; omega)] at hx
  exact h H enc W base spare held fuel _ x hx hz
theorem OpensZF.cons {f : Field} {fs : List Field} {off total : Nat} (hf : f.offset = off) (hs : P.cellsOf f.type = d.sz) (h : OpensZ P f.type d ok) (hr : OpensZF P fs (off + d.sz) total d' ok') :
    OpensZF P (f :: fs) off total (Kd.pair d d') (fun p => ok p.1 ∧ ok' p.2) := fun H enc W base spare held fuel cs hl hx => by
  obtain ⟨x, h1, hz⟩ := hx f (by simp)
  obtain ⟨a, h2, h3⟩ := h H enc W base spare held fuel _ x h1 hz
  obtain ⟨b, h4, h5⟩ := hr H enc W base spare held fuel cs hl (fun g hg => hx g (List.mem_cons_of_mem _ hg))
  refine ⟨(a, b), ⟨_, _, ?_, h2, h4⟩, h3, h5⟩
  rw [hf, hs, ← List.drop_drop, List.take_append_drop]
theorem OpensZ.struct {fs : Array Field} {total : Nat} (ht : P.underlying t = some (.struct fs)) (hc : P.cellsOf t = total) (h : OpensZF P fs.toList 0 total d ok) : OpensZ P t d ok := fun H enc W base spare held fuel cs x hx hz => by
  obtain ⟨xs, n, h1, hxx, hlen, hxl, hg⟩ := DataW.trod_struct ht hx
  have := h H enc W base spare held n cs (hlen.trans hc) (fun f hf => by
    obtain ⟨i, hi⟩ := List.getElem?_of_mem hf
    have hi' : fs[i]? = some f := by simpa using hi
    have hlt : i < xs.length := by rw [hxl]; exact (Array.getElem?_eq_some_iff.1 hi').1
    refine ⟨xs[i], by rw [hg i f hi']; exact List.getElem?_eq_getElem hlt, fun q hq => hz q ?_⟩
    rw [hxx]
    simp only [DataW.weights, ht]
    exact mem_weightsEach (j := i) (t := f.type) (d := xs[i].1) (by rw [List.getElem?_map, hi]; rfl) (by rw [List.getElem?_map, List.getElem?_eq_getElem hlt]; rfl) hq)
  simpa using this
end
end Go.Proofs.YtjibgfihfbdcaaaW.PrintWords
