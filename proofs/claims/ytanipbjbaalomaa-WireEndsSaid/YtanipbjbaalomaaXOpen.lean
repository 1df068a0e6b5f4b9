/- Words of this session: an argument that can be read as data is of its kind (numbers, bools, slices, structs, arrays, nested); no condition. -/
import Derived.Test.YtanipbjbaalomaaXWords
import Derived.Test.YtanipbjbaalomaaWArr
import Derived.Deep.Slices
import Derived.ChangeArms
import Derived.OpenShut
namespace Go.Proofs.YtanipbjbaalomaaW.PrintWords
open Go.RowKit Go.Deep
set_option linter.unusedVariables false
/-- Whatever is read as data of type t is of kind d, and ok. -/
def Opens {α : Type} (P : Program) (t : TypeId) (d : Kd α) (ok : α → Prop) : Prop :=
  ∀ (H : Type) (enc : TypeId × Value → H) (W : World) (base : Nat) (spare : Nat → Bool) (held : Bool) (fuel : Nat) (cs : List Value) (x : DataW H × List MemPlace), DataW.trod enc P W base spare held fuel t cs = some x → ∃ a, d.K W a cs ∧ ok a
/-- The fields from cell off on. -/
def OpensF {α : Type} (P : Program) (fs : List Field) (off total : Nat) (d : Kd α) (ok : α → Prop) : Prop :=
  ∀ (H : Type) (enc : TypeId × Value → H) (W : World) (base : Nat) (spare : Nat → Bool) (held : Bool) (fuel : Nat) (cs : List Value), cs.length = total →
    (∀ f, f ∈ fs → ∃ x, DataW.trod enc P W base spare held fuel f.type ((cs.drop f.offset).take (P.cellsOf f.type)) = some x) → ∃ a, d.K W a (cs.drop off) ∧ ok a
section
variable {α β : Type} {P : Program} {t e : TypeId} {d : Kd α} {d' : Kd β} {ok ok2 : α → Prop} {ok' : β → Prop}
theorem Opens.mono (h : Opens P t d ok) (hk : ∀ a, ok a → ok2 a) : Opens P t d ok2 := fun H enc W base spare held fuel cs x hx => by
  obtain ⟨a, h1, h2⟩ := h H enc W base spare held fuel cs x hx
  exact ⟨a, h1, hk a h2⟩
theorem Opens.int {k : IntKind} (ht : P.underlying t = some (.int k)) : Opens P t (Kd.int k) (fun n => (Lit.int k n).wf = true) := fun H enc W base spare held fuel cs x hx => by
  obtain ⟨n, rfl, _, hw⟩ := DataW.trod_int ht hx
  exact ⟨n, rfl, hw⟩
theorem Opens.bool (ht : P.underlying t = some .bool) : Opens P t Kd.bool (fun _ => True) := fun H enc W base spare held fuel cs x hx => by
  obtain ⟨b, rfl, _⟩ := DataW.trod_bool ht hx
  exact ⟨b, rfl, trivial⟩
theorem Opens.iso (h : Opens P t d ok) (f : β → α) (g : α → β) (hg : ∀ a, f (g a) = a) : Opens P t (Kd.iso d f) (fun b => ok (f b)) := fun H enc W base spare held fuel cs x hx => by
  obtain ⟨a, h1, h2⟩ := h H enc W base spare held fuel cs x hx
  exact ⟨g a, by show d.K W (f (g a)) cs; rw [hg]; exact h1, by show ok (f (g a)); rw [hg]; exact h2⟩
theorem list_of_all {γ : Type} {p : Nat → γ → Prop} : ∀ (n : Nat), (∀ i, i < n → ∃ a, p i a) → ∃ xs : List γ, xs.length = n ∧ ∀ i a, xs[i]? = some a → p i a
  | 0, _ => ⟨[], rfl, fun i a h => by simp at h⟩
  | n + 1, h => by
    obtain ⟨xs, hl, hx⟩ := list_of_all n (fun i hi => h i (by omega))
    obtain ⟨a, ha⟩ := h n (by omega)
    refine ⟨xs ++ [a], by simp [hl], fun i b hb => ?_⟩
    rcases Nat.lt_or_ge i xs.length with hi | hi
    · rw [List.getElem?_append_left hi] at hb
      exact hx i b hb
    · rw [List.getElem?_append_right hi] at hb
      have hlt := (List.getElem?_eq_some_iff.1 hb).1
      have : i = n := by simp at hlt; omega
      subst this
      rw [hl, Nat.sub_self] at hb
      injection hb with hb
      subst hb
      exact ha
theorem Opens.slice (ht : P.underlying t = some (.slice e)) (hs : P.cellsOf e = d.sz) (h : Opens P e d ok) : Opens P t (Kd.slice e d) (fun xs => xs.length ≤ maxLen ∧ ∀ a ∈ xs, ok a) := fun H enc W base spare held fuel cs x hx => by
  rcases open_slice ht hx with ⟨rfl, _⟩ | ⟨a, len, cap, m, n, D, Pl, rfl, hb, hlc, hcm, hm, _, hi⟩
  · exact ⟨[], ⟨none, 0, rfl, by simp, by simp, by simp, fun h0 => by simp at h0⟩, by simp, by simp⟩
  · obtain ⟨xs, hl, hp⟩ := list_of_all (p := fun i b => ∃ cs', W.cells? base (a.add (i * P.cellsOf e)) (P.cellsOf e) = some cs' ∧ d.K W b cs' ∧ ok b) len (fun i hlt => by
      have hlm : len ≤ m := by rw [hm]; split <;> omega
      obtain ⟨cs', h1, h2⟩ := hi i (by omega)
      obtain ⟨b, h3, h4⟩ := h H enc W base spare held n cs' _ h2
      exact ⟨b, cs', h1, h3, h4⟩)
    subst hl
    refine ⟨xs, ⟨some a, cap, rfl, hlc, rfl, ?_, fun _ => ⟨a, rfl, fun j p hj => ?_⟩⟩, Nat.le_trans hlc hcm, fun b hb => ?_⟩
    · have := hcm; simp only [maxLen] at this; omega
    · obtain ⟨cs', h1, h2, _⟩ := hp j p hj
      obtain ⟨_, hcl, hat⟩ := World.cells?_some h1
      refine ⟨cs', by rw [hcl, hs], h2, fun i u hu => ?_⟩
      have hil : i < cs'.length := (List.getElem?_eq_some_iff.1 hu).1
      have := hat i (by omega)
      rw [hu] at this
      rw [← hs, ← this]
      congr 1
      unfold Addr.add
      by_cases h1 : j * P.cellsOf e = 0 <;> by_cases h2 : i = 0 <;> simp [h1, h2, Nat.add_assoc]
    · obtain ⟨j, hj⟩ := List.getElem?_of_mem hb
      obtain ⟨_, _, _, h4⟩ := hp j b hj
      exact h4
theorem OpensF.last {f : Field} {off total : Nat} (hf : f.offset = off) (hsz : off + P.cellsOf f.type = total) (h : Opens P f.type d ok) : OpensF P [f] off total d ok := fun H enc W base spare held fuel cs hl hx => by
  obtain ⟨x, hx⟩ := hx f (by simp)
  rw [hf, List.take_of_length_le (by rw [List.length_drop]; omega)] at hx
  exact h H enc W base spare held fuel _ x hx
theorem OpensF.cons {f : Field} {fs : List Field} {off total : Nat} (hf : f.offset = off) (hs : P.cellsOf f.type = d.sz) (h : Opens P f.type d ok) (hr : OpensF P fs (off + d.sz) total d' ok') :
    OpensF P (f :: fs) off total (Kd.pair d d') (fun p => ok p.1 ∧ ok' p.2) := fun H enc W base spare held fuel cs hl hx => by
  obtain ⟨x, h1⟩ := hx f (by simp)
  obtain ⟨a, h2, h3⟩ := h H enc W base spare held fuel _ x h1
  obtain ⟨b, h4, h5⟩ := hr H enc W base spare held fuel cs hl (fun g hg => hx g (List.mem_cons_of_mem _ hg))
  refine ⟨(a, b), ⟨_, _, ?_, h2, h4⟩, h3, h5⟩
  rw [hf, hs, ← List.drop_drop, List.take_append_drop]
theorem Opens.struct {fs : Array Field} {total : Nat} (ht : P.underlying t = some (.struct fs)) (hc : P.cellsOf t = total) (h : OpensF P fs.toList 0 total d ok) : Opens P t d ok := fun H enc W base spare held fuel cs x hx => by
  obtain ⟨xs, n, _, _, hlen, hxl, hg⟩ := DataW.trod_struct ht hx
  have := h H enc W base spare held n cs (hlen.trans hc) (fun f hf => by
    obtain ⟨i, hi⟩ := List.getElem?_of_mem hf
    have hi' : fs[i]? = some f := by simpa using hi
    have hlt : i < xs.length := by rw [hxl]; exact (Array.getElem?_eq_some_iff.1 hi').1
    exact ⟨xs[i], by rw [hg i f hi']; exact List.getElem?_eq_getElem hlt⟩)
  simpa using this
end
end Go.Proofs.YtanipbjbaalomaaW.PrintWords
