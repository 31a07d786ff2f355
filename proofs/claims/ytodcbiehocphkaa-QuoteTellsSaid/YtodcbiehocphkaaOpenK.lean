/- What an argument that can be read says in the print's kinds: for any kind made of numbers, Bools, texts, slices and structs.
   No conditions of a program's. -/
import Derived.Test.YtodcbiehocphkaaPx0
import Derived.Deep.Slices
import Derived.Deep.Fields
import Derived.ChangeSame
import Derived.OpenShut
namespace Go.Proofs.Ytodcbiehocphkaa.OpenK
open Go.RowKit Go.ChangeShapes Go.WideShapes Go.Deep Go.Proofs.YtodcbiehocphkaaW.PrintWords
/-- Whatever reads at type t reads as kind d. -/
def Opn {α : Type} (P : Program) (d : Kd α) (t : TypeId) : Prop :=
  ∀ (H : Type) (enc : TypeId × Value → H) (w : World) (base : Nat) (spare : Nat → Bool) (held : Bool) (fuel : Nat) (cs : List Value) (x : DataW H × List MemPlace), DataW.trod enc P w base spare held fuel t cs = some x → ∃ y, d.K w y cs
variable {P : Program}
theorem opn_int {k : IntKind} {t : TypeId} (ht : P.underlying t = some (.int k)) : Opn P (Kd.int k) t := fun H enc w base spare held fuel cs x h => by
  obtain ⟨n, rfl, _⟩ := DataW.trod_int ht h
  exact ⟨n, rfl⟩
theorem opn_bool {t : TypeId} (ht : P.underlying t = some .bool) : Opn P Kd.bool t := fun H enc w base spare held fuel cs x h => by
  obtain ⟨n, rfl, _⟩ := DataW.trod_bool ht h
  exact ⟨n, rfl⟩
theorem opn_string {t : TypeId} (ht : P.underlying t = some .string) : Opn P Kd.string t := fun H enc w base spare held fuel cs x h => by
  obtain ⟨n, rfl, _⟩ := DataW.trod_string ht h
  exact ⟨n, rfl⟩
theorem opn_slice {α : Type} {d : Kd α} {t e : TypeId} (ht : P.underlying t = some (.slice e)) (hd : Opn P d e) (hs : P.cellsOf e = d.sz) : Opn P (Kd.slice e d) t := fun H enc w base spare held fuel cs x h => by
  rcases open_slice ht h with ⟨rfl, _⟩ | ⟨a, len, cap, m, n, D, Pl, rfl, _, hl, hm, hmm, _, hi⟩
  · exact ⟨[], none, 0, rfl, Nat.le_refl _, Kd.C_nil d w⟩
  · have hlm : len ≤ m := by rw [hmm]; split <;> omega
    have key : ∀ i, i < len → ∃ y c, d.K w y c ∧ c.length = d.sz ∧ ∀ j u, c[j]? = some u → w.cell? (a.add (i * d.sz + j)) = some u := by
      intro i hlt
      obtain ⟨cs', hc, ht'⟩ := hi i (by omega)
      obtain ⟨y, hy⟩ := hd _ _ _ _ _ _ _ _ _ ht'
      obtain ⟨_, hcl, hat⟩ := World.cells?_some hc
      rw [hs] at hcl hat
      refine ⟨y, cs', hy, hcl, fun j u hu => ?_⟩
      have hj : j < d.sz := by have := (List.getElem?_eq_some_iff.1 hu).1; omega
      have h2 := hat j hj
      rw [Go.Deep.add_add] at h2
      rw [h2]
      exact hu
    have all : ∀ q, q ≤ len → ∃ xs : List α, xs.length = q ∧ ∀ j p, xs[j]? = some p → ∃ c, c.length = d.sz ∧ d.K w p c ∧ ∀ i u, c[i]? = some u → w.cell? (a.add (j * d.sz + i)) = some u := by
      intro q
      induction q with
      | zero => exact fun _ => ⟨[], rfl, fun j p h => by simp at h⟩
      | succ q ih =>
        intro hq
        obtain ⟨xs, hxl, hx⟩ := ih (by omega)
        obtain ⟨y, c, hy, hcl, hc⟩ := key q (by omega)
        refine ⟨xs ++ [y], by rw [List.length_append, hxl]; rfl, fun j p hj => ?_⟩
        rcases Nat.lt_or_ge j xs.length with h2 | h2
        · rw [List.getElem?_append_left h2] at hj
          exact hx j p hj
        · have hj2 : j = xs.length := by
            have := (List.getElem?_eq_some_iff.1 hj).1
            rw [List.length_append, List.length_singleton] at this
            omega
          subst hj2
          have hp : y = p := by simpa using hj
          subst hp
          rw [hxl]
          exact ⟨c, hcl, hy, hc⟩
    obtain ⟨xs, hxl, hx⟩ := all len (Nat.le_refl _)
    refine ⟨xs, some a, cap, by rw [hxl], by omega, ?_⟩
    exact ⟨rfl, by rw [hxl]; unfold maxLen at hm; omega, fun _ => ⟨a, rfl, hx⟩⟩
/-- Fields from a place on. -/
def OpnF {α : Type} (P : Program) (d : Kd α) (fs : List Field) (o : Nat) : Prop :=
  ∀ (H : Type) (enc : TypeId × Value → H) (w : World) (base : Nat) (spare : Nat → Bool) (held : Bool) (n : Nat) (cs : List Value), cs.length = o + d.sz →
    (∀ (j : Nat) (f : Field), fs[j]? = some f → ∃ x, DataW.trod enc P w base spare held n f.type ((cs.drop f.offset).take (P.cellsOf f.type)) = some x) → ∃ y, d.K w y (cs.drop o)
theorem opnF_one {α : Type} {d : Kd α} {f : Field} {o : Nat} (ho : f.offset = o) (hs : P.cellsOf f.type = d.sz) (hd : Opn P d f.type) : OpnF P d [f] o := fun H enc w base spare held n cs hl h => by
  obtain ⟨x, hx⟩ := h 0 f rfl
  obtain ⟨y, hy⟩ := hd _ _ _ _ _ _ _ _ _ hx
  rw [ho, hs, List.take_of_length_le (by rw [List.length_drop]; omega)] at hy
  exact ⟨y, hy⟩
theorem opnF_cons {α β : Type} {d : Kd α} {d' : Kd β} {f : Field} {fs : List Field} {o : Nat} (ho : f.offset = o) (hs : P.cellsOf f.type = d.sz) (hd : Opn P d f.type) (hr : OpnF P d' fs (o + d.sz)) : OpnF P (Kd.pair d d') (f :: fs) o := fun H enc w base spare held n cs hl h => by
  obtain ⟨x, hx⟩ := h 0 f rfl
  obtain ⟨y, hy⟩ := hd _ _ _ _ _ _ _ _ _ hx
  rw [ho, hs] at hy
  have hsz : (Kd.pair d d').sz = d.sz + d'.sz := rfl
  obtain ⟨z, hz⟩ := hr H enc w base spare held n cs (by rw [hl, hsz]; omega) (fun j f hj => h (j + 1) f hj)
  refine ⟨(y, z), (cs.drop o).take d.sz, cs.drop (o + d.sz), ?_, hy, hz⟩
  rw [← List.drop_drop, List.take_append_drop]
theorem opn_struct {α : Type} {d : Kd α} {t : TypeId} {fs : Array Field} (ht : P.underlying t = some (.struct fs)) (hs : P.cellsOf t = d.sz) (hf : OpnF P d fs.toList 0) : Opn P d t := fun H enc w base spare held fuel cs x h => by
  obtain ⟨xs, n, _, _, hlen, hxl, hg⟩ := DataW.trod_struct ht h
  have := hf H enc w base spare held n cs (by rw [hlen, hs]; omega) (fun j f hj => by
    rw [Array.getElem?_toList] at hj
    have hlt : j < xs.length := by have := (Array.getElem?_eq_some_iff.1 hj).1; omega
    exact ⟨xs[j], (hg j f hj).trans (List.getElem?_eq_getElem hlt)⟩)
  rw [List.drop_zero] at this
  exact this
theorem opn_iso {α β : Type} {d : Kd α} {t : TypeId} (f : β → α) (hf : ∀ y, ∃ x, f x = y) (hd : Opn P d t) : Opn P (Kd.iso d f) t := fun H enc w base spare held fuel cs x h => by
  obtain ⟨y, hy⟩ := hd _ _ _ _ _ _ _ _ _ h
  obtain ⟨z, rfl⟩ := hf y
  exact ⟨z, hy⟩
end Go.Proofs.Ytodcbiehocphkaa.OpenK
