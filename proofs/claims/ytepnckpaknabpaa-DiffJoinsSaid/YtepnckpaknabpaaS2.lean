/-
  Pairs and changes that came in: what their cells are. Conditions: none.
-/
import Derived.Test.YtepnckpaknabpaaVcS
import Derived.Test.YtepnckpaknabpaaD3
import Derived.Test.YtepnckpaknabpaaA2
set_option linter.unusedVariables false
namespace Go.Proofs.Ytepnckpaknabpaa
open Go Go.Vc Go.RowKit Go.Proofs

set_option maxRecDepth 100000
theorem und38' : Try.prog.underlying 38 = some (.struct #[(Try.prog.fieldsOf 38)[0]!, (Try.prog.fieldsOf 38)[1]!]) := by kernel_rfl
theorem und40' : Try.prog.underlying 40 = some (.struct #[(Try.prog.fieldsOf 40)[0]!, (Try.prog.fieldsOf 40)[1]!, (Try.prog.fieldsOf 40)[2]!, (Try.prog.fieldsOf 40)[3]!, (Try.prog.fieldsOf 40)[4]!]) := by kernel_rfl

instance : Inhabited Chg := ⟨⟨⟨#[]⟩, ⟨#[]⟩, ⟨#[]⟩, false, false⟩⟩
/-- one field of a struct that came in. -/
theorem fld {H : Type} {enc : TypeId × Value → H} {P : Program} {w : World} {base : Nat} {spare : Nat → Bool} {held : Bool} {n : Nat} {cs : List Value} {fs : Array Field} {xs : List (DataW H × List MemPlace)}
    (h : ∀ (i : Nat) (f : Field), fs[i]? = some f → DataW.trod enc P w base spare held n f.type ((cs.drop f.offset).take (P.cellsOf f.type)) = xs[i]?) (hl : xs.length = fs.size) (i : Nat) {f : Field} {t : TypeId} {o : Nat}
    (hf : fs[i]? = some f) (ht : f.type = t) (ho : f.offset = o) (hc : P.cellsOf f.type = 1) : ∃ x, DataW.trod enc P w base spare held n t ((cs.drop o).take 1) = some x := by
  have hi : i < xs.length := by rw [hl]; exact (Array.getElem?_eq_some_iff.1 hf).1
  have := h i f hf
  rw [ht, ho, ← ht, hc, ht, List.getElem?_eq_getElem hi] at this
  exact ⟨_, this⟩

theorem decPair : Dec PairE Try.prog 38 (fun p => p.1.size ≤ 9223372036854775807) := fun {H enc w base spare held n cs d} h => by
  obtain ⟨xs, m, _, _, hl, hx, hf⟩ := DataW.trod_struct und38' h
  obtain ⟨_, f0⟩ := fld (t := 9) (o := 0) hf hx 0 rfl (by kernel_rfl) (by kernel_rfl) (by kernel_rfl)
  obtain ⟨_, f1⟩ := fld (t := 9) (o := 1) hf hx 1 rfl (by kernel_rfl) (by kernel_rfl) (by kernel_rfl)
  have hl2 : cs.length = 2 := hl.trans (by kernel_rfl)
  match cs, hl2 with
  | [a, b], _ =>
    obtain ⟨s0, e0, _, b0⟩ := DataW.trod_string Try.underlying9 f0
    obtain ⟨s1, e1, _, _⟩ := DataW.trod_string Try.underlying9 f1
    simp at e0 e1
    subst e0 e1
    exact ⟨(s0, s1), rfl, b0⟩

theorem decChange : Dec ChangeE Try.prog 40 (fun c => c.k.size ≤ 9223372036854775807) := fun {H enc w base spare held n cs d} h => by
  obtain ⟨xs, m, _, _, hl, hx, hf⟩ := DataW.trod_struct und40' h
  obtain ⟨_, f0⟩ := fld (t := 9) (o := 0) hf hx 0 rfl (by kernel_rfl) (by kernel_rfl) (by kernel_rfl)
  obtain ⟨_, f1⟩ := fld (t := 9) (o := 1) hf hx 1 rfl (by kernel_rfl) (by kernel_rfl) (by kernel_rfl)
  obtain ⟨_, f2⟩ := fld (t := 9) (o := 2) hf hx 2 rfl (by kernel_rfl) (by kernel_rfl) (by kernel_rfl)
  obtain ⟨_, f3⟩ := fld (t := 4) (o := 3) hf hx 3 rfl (by kernel_rfl) (by kernel_rfl) (by kernel_rfl)
  obtain ⟨_, f4⟩ := fld (t := 4) (o := 4) hf hx 4 rfl (by kernel_rfl) (by kernel_rfl) (by kernel_rfl)
  have hl2 : cs.length = 5 := hl.trans (by kernel_rfl)
  match cs, hl2 with
  | [a, b, c, d, e], _ =>
    obtain ⟨s0, e0, _, b0⟩ := DataW.trod_string Try.underlying9 f0
    obtain ⟨s1, e1, _, _⟩ := DataW.trod_string Try.underlying9 f1
    obtain ⟨s2, e2, _, _⟩ := DataW.trod_string Try.underlying9 f2
    obtain ⟨s3, e3, _⟩ := DataW.trod_bool Try.underlying4 f3
    obtain ⟨s4, e4, _⟩ := DataW.trod_bool Try.underlying4 f4
    simp at e0 e1 e2 e3 e4
    subst e0 e1 e2 e3 e4
    exact ⟨⟨s0, s1, s2, s3, s4⟩, rfl, b0⟩
end Go.Proofs.Ytepnckpaknabpaa
