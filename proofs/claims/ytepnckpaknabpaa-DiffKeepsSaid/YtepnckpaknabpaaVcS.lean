/-
  A slice that came in, of whatever elements: it reads as a list, and each element is as its decoder says. Conditions: the decoder.
-/
import Derived.Test.YtepnckpaknabpaaVcR
set_option linter.unusedVariables false
namespace Go.Vc
open Go Go.RowKit

/-- what a row of cells that reads at type e is. -/
def Dec {α : Type} (E : Enc α) (P : Program) (e : TypeId) (good : α → Prop) : Prop :=
  ∀ {H : Type} {enc : TypeId × Value → H} {w : World} {base : Nat} {spare : Nat → Bool} {held : Bool} {n : Nat} {cs : List Value} {d : DataW H × List MemPlace},
    DataW.trod enc P w base spare held n e cs = some d → ∃ x, cs = E.enc x ∧ good x

theorem open_elems {α : Type} [Inhabited α] {E : Enc α} {good : α → Prop} {H : Type} {enc : TypeId × Value → H} {P : Program} {w : World} {base : Nat} {spare : Nat → Bool} {held : Bool} {t e : TypeId} {a : Option Addr} {n c : Nat}
    {d : DataW H} {ps : List MemPlace} (ht : P.underlying t = some (.slice e)) (ce : P.cellsOf e = E.sz) (dec : Dec E P e good) (h : DataW.Trod enc P w base spare held t (.slice a n c) d ps) :
    ∃ xs, Sl E w.heap a n xs ∧ n ≤ c ∧ n ≤ 9223372036854775807 ∧ ∀ x ∈ xs, good x := by
  obtain ⟨fuel, hf⟩ := h
  rcases Deep.open_slice ht hf with ⟨hcs, _⟩ | ⟨x, len, cap, m, k, D, Pl, hcs, hb, hl, hm, hmm, _, hx⟩
  · simp [Value.cells] at hcs
    obtain ⟨rfl, rfl, rfl⟩ := hcs
    exact ⟨[], Sl.nil _ _, by omega, by omega, by simp⟩
  · simp [Value.cells] at hcs
    obtain ⟨rfl, rfl, rfl⟩ := hcs
    have hnm : n ≤ m := by rw [hmm]; split <;> omega
    unfold maxLen at hm
    have each : ∀ i, i < n → ∃ y : α, (∀ j v, (E.enc y)[j]? = some v → cell w.heap (x.add (i * E.sz + j)) = some v) ∧ good y := fun i hi => by
      obtain ⟨cs', h1, h2⟩ := hx i (by omega)
      rw [ce] at h1
      obtain ⟨_, hlen, hcell⟩ := World.cells?_some h1
      obtain ⟨y, rfl, hg⟩ := dec h2
      refine ⟨y, fun j v hv => ?_, hg⟩
      have hj : j < E.sz := by rw [← E.len y]; exact (List.getElem?_eq_some_iff.1 hv).1
      have := hcell j hj
      rw [Addr.add_add] at this
      rw [← cell_eq, this, hv]
    obtain ⟨X, hX⟩ := Deep.choose_lt each
    refine ⟨(List.range n).map X, ⟨by simp, .inr ⟨x, rfl, fun i y hy j v hv => ?_⟩⟩, hl, by omega, fun y hy => ?_⟩
    · have hi : i < n := by have := (List.getElem?_eq_some_iff.1 hy).1; simpa using this
      simp [hi] at hy
      subst hy
      exact (hX i hi).1 j v hv
    · obtain ⟨i, hi, rfl⟩ := List.mem_map.1 hy
      exact (hX i (List.mem_range.1 hi)).2
end Go.Vc
