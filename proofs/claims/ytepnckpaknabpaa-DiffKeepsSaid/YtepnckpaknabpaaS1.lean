/-
  The contract of slices.Sorted(maps.Keys(m)) at this program, off the shelf's. Conditions: none.
-/
import Derived.Test.YtepnckpaknabpaaIter
import Derived.Test.YtepnckpaknabpaaS0
set_option linter.unusedVariables false
set_option linter.unusedSimpArgs false
namespace Go.Proofs.Ytepnckpaknabpaa
open Go Go.Vc Go.Proofs Go.Maps

theorem sl_of_row {w : World} {base : Nat} {v : Value} {ls : List (List UInt8)} (h : w.ownsRow base 9 1 v ls.length (ls.map encStr)) :
    ∃ a c, v = .slice a ls.length c ∧ Sl StrE w.heap a ls.length (ls.map fun l => (⟨l.toArray⟩ : Str)) := by
  obtain ⟨_, ⟨rfl, h0⟩ | ⟨g, cap, cur, rfl, _, hb, _, _, _, ht⟩⟩ := h
  · have : ls = [] := List.eq_nil_of_length_eq_zero h0
    subst this
    exact ⟨_, _, rfl, Sl.nil _ _⟩
  · refine ⟨_, _, rfl, by simp, .inr ⟨_, rfl, fun i x hx j u hu => ?_⟩⟩
    rw [List.getElem?_map] at hx
    cases hl : ls[i]? with
    | none => rw [hl] at hx; cases hx
    | some l =>
      rw [hl] at hx
      simp at hx
      subst hx
      have hi := (List.getElem?_eq_some_iff.1 hl).1
      match j, hu with
      | 0, hu =>
        simp [StrE] at hu
        subst hu
        rw [Addr.add_row, cell_at hb]
        have : (ls.map encStr)[i]? = some (encStr l) := by rw [List.getElem?_map, hl]; rfl
        rw [← ht, List.getElem?_take, if_pos (by omega)] at this
        have e : 0 + (i * StrE.sz + 0) = i := by show 0 + (i * 1 + 0) = i; omega
        rw [e, ← Array.getElem?_toList]
        exact this
      | j + 1, hu => simp [StrE] at hu

theorem sortedKeys : SortedKeys := fun h r m hma hn hbd => by
  refine ⟨fun w hw => ?_⟩
  subst hw
  refine (callsIn_wide.1 (Try.maps_Keys_37 (some r) w)).mono ?_
  rintro e w' ⟨rfl, rfl⟩
  refine ⟨_, rfl, ⟨rfl, rfl, rfl⟩, Keep.push _ _ _ (Nat.le_refl _), ⟨fun w2 hw2 => ?_⟩⟩
  obtain ⟨w0, hh, rfl⟩ : ∃ w0 : World, w0.heap = w.heap ∧ w2 = w0.alloc (.cells #[.map (some r)] 56) :=
    ⟨{ w2 with heap := w.heap }, rfl, by cases w2; simp only [World.alloc] at hw2 ⊢; subst hw2; rfl⟩
  rw [← hh] at hma ⊢
  obtain ⟨D, hown, hp0, hsz⟩ := owns_of (w := w0) hma hbd hn
  refine (callsIn_wide.1 (Try.slices_Sorted_keys_36_37 (H := Unit) r m.length D readN w0 hown (by rw [hsz]; unfold maxLen; omega) (by rw [hsz]; omega))).mono ?_
  rintro e w' ⟨v, ss, rfl, hp, hrow, hnil, hb⟩
  have hnd : (mKeys m).Nodup := by obtain ⟨_, _, _, _, h, _⟩ := hma; exact h
  obtain ⟨s1, s2, s3⟩ := sorted_keys hnd (hp.trans hp0)
  have hl : ss.length = (ss.mergeSort fun x y => decide (x ≤ y)).length := by simp
  rw [hl] at hrow
  obtain ⟨a, c, rfl, hsl⟩ := sl_of_row hrow
  have kp := Keep.push w0.heap.size w0.heap (.cells #[.map (some r)] 56) (Nat.le_refl _)
  refine ⟨_, rfl, ⟨hb.tape, hb.os, hb.output⟩, kp.trans ⟨hb.size, fun i hi => hb.block i (Nat.lt_of_lt_of_le hi kp.size)⟩, a, c, _, s1, s2, s3, ?_, ?_⟩
  · simp
  · simpa using hsl
end Go.Proofs.Ytepnckpaknabpaa
