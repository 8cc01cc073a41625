/-
  Arguments that came in: numbers, texts, slices of them, slices of slices. Conditions: the types.
-/
import Derived.Test.YtcihjdalokaokaaGreatDoorVcQ
import Derived.Test.YtcihjdalokaokaaGreatDoorVcR
import Derived.WalkArith
set_option linter.unusedVariables false
namespace Go.Vc
open Go Go.RowKit

/-- what a row of cells that reads at type e is, over its world. -/
def DecW {α : Type} (E : Enc α) (P : Program) (e : TypeId) (good : World → α → Prop) : Prop :=
  ∀ {H : Type} {enc : TypeId × Value → H} {w : World} {base : Nat} {spare : Nat → Bool} {held : Bool} {n : Nat} {cs : List Value} {d : DataW H × List MemPlace},
    DataW.trod enc P w base spare held n e cs = some d → ∃ x, cs = E.enc x ∧ good w x

def SliceE : Enc (Option Addr × Nat × Nat) := ⟨1, fun s => [.slice s.1 s.2.1 s.2.2], fun _ => rfl, fun p v h => by simp at h; subst h; exact one_slice _ _ _⟩
def IntE (k : IntKind) : Enc Int := ⟨1, fun n => [.int k n], fun _ => rfl, fun p v h => by simp at h; subst h; exact one_int _ _⟩
def BoolE : Enc Bool := ⟨1, fun b => [.bool b], fun _ => rfl, fun p v h => by simp at h; subst h; exact one_bool _⟩
def StrE : Enc ByteArray := ⟨1, fun s => [.string s], fun _ => rfl, fun p v h => by simp at h; subst h; exact one_string _⟩

theorem wf_bounds {k : IntKind} {n : Int} (h : (Lit.int k n).wf = true) : k.min ≤ n ∧ n ≤ k.max := by
  simpa [Lit.wf] using h
theorem decByte {P : Program} {e : TypeId} (he : P.underlying e = some (.int .u8)) : DecW ByteE P e fun _ _ => True := fun h => by
  obtain ⟨n, rfl, _, hw⟩ := DataW.trod_int he h
  have := wf_bounds hw
  have h0 : (0 : Int) ≤ n := this.1
  have h1 : n ≤ 255 := this.2
  refine ⟨UInt8.ofNat n.toNat, ?_, trivial⟩
  have : ((UInt8.ofNat n.toNat).toNat : Int) = n := by rw [UInt8.toNat_ofNat']; omega
  show [Value.int .u8 n] = [Value.int .u8 _]
  rw [this]
theorem decInt {P : Program} {e : TypeId} {k : IntKind} (he : P.underlying e = some (.int k)) : DecW (IntE k) P e fun _ n => k.min ≤ n ∧ n ≤ k.max := fun h => by
  obtain ⟨n, rfl, _, hw⟩ := DataW.trod_int he h
  exact ⟨n, rfl, wf_bounds hw⟩
theorem decBool {P : Program} {e : TypeId} (he : P.underlying e = some .bool) : DecW BoolE P e fun _ _ => True := fun h => by
  obtain ⟨n, rfl, _⟩ := DataW.trod_bool he h
  exact ⟨n, rfl, trivial⟩
theorem decStr {P : Program} {e : TypeId} (he : P.underlying e = some .string) : DecW StrE P e fun _ s => s.size ≤ 9223372036854775807 := fun h => by
  obtain ⟨n, rfl, _, hs⟩ := DataW.trod_string he h
  exact ⟨n, rfl, hs⟩
/-- a slice, read as a list. -/
def SlG {α : Type} (E : Enc α) (good : World → α → Prop) (w : World) (s : Option Addr × Nat × Nat) : Prop :=
  ∃ xs, Sl E w.heap s.1 s.2.1 xs ∧ s.2.1 ≤ s.2.2 ∧ s.2.1 ≤ 9223372036854775807 ∧ ∀ x ∈ xs, good w x
theorem decSlice {α : Type} [Inhabited α] {E : Enc α} {good : World → α → Prop} {P : Program} {t e : TypeId} (ht : P.underlying t = some (.slice e)) (ce : P.cellsOf e = E.sz) (dec : DecW E P e good) :
    DecW SliceE P t (SlG E good) := fun {H enc w base spare held fuel cs d} hf => by
  rcases Deep.open_slice ht hf with ⟨hcs, _⟩ | ⟨x, len, cap, m, k, D, Pl, hcs, hb, hl, hm, hmm, _, hx⟩
  · exact ⟨(none, 0, 0), hcs, [], Sl.nil _ _, Nat.le_refl _, by show (0 : Nat) ≤ _; omega, by simp⟩
  · have hnm : len ≤ m := by rw [hmm]; split <;> omega
    unfold maxLen at hm
    refine ⟨(some x, len, cap), hcs, ?_⟩
    have each : ∀ i, i < len → ∃ y : α, (∀ j v, (E.enc y)[j]? = some v → cell w.heap (x.add (i * E.sz + j)) = some v) ∧ good w y := fun i hi => by
      obtain ⟨cs', h1, h2⟩ := hx i (by omega)
      rw [ce] at h1
      obtain ⟨_, hlen, hcell⟩ := World.cells?_some h1
      obtain ⟨y, rfl, hg⟩ := dec h2
      refine ⟨y, fun j v hv => ?_, hg⟩
      have hj : j < E.sz := by rw [← E.len y]; exact (List.getElem?_eq_some_iff.1 hv).1
      have := hcell j hj
      rw [Addr.add_add] at this
      rw [← cell_eq, this, hv]
    obtain ⟨X, hX⟩ := Deep.choose_lt each
    refine ⟨(List.range len).map X, ⟨by simp, .inr ⟨x, rfl, fun i y hy j v hv => ?_⟩⟩, hl, by show len ≤ _; omega, fun y hy => ?_⟩
    · have hi : i < len := by have := (List.getElem?_eq_some_iff.1 hy).1; simpa using this
      simp [hi] at hy
      subst hy
      exact (hX i hi).1 j v hv
    · obtain ⟨i, hi, rfl⟩ := List.mem_map.1 hy
      exact (hX i (List.mem_range.1 hi)).2
/-- an argument that came in. -/
theorem open_arg {α : Type} {E : Enc α} {good : World → α → Prop} {P : Program} {t : TypeId} {H : Type} {enc : TypeId × Value → H} {w : World} {base : Nat} {spare : Nat → Bool} {held : Bool} {v : Value} {d : DataW H} {ps : List MemPlace}
    (dec : DecW E P t good) (h : DataW.Trod enc P w base spare held t v d ps) : ∃ x, v.cells.toList = E.enc x ∧ good w x := by
  obtain ⟨fuel, hf⟩ := h
  exact dec hf
theorem open_sl {α : Type} [Inhabited α] {E : Enc α} {good : World → α → Prop} {P : Program} {t e : TypeId} {H : Type} {enc : TypeId × Value → H} {w : World} {base : Nat} {spare : Nat → Bool} {held : Bool} {a : Option Addr} {n c : Nat} {d : DataW H} {ps : List MemPlace}
    (ht : P.underlying t = some (.slice e)) (ce : P.cellsOf e = E.sz) (dec : DecW E P e good) (h : DataW.Trod enc P w base spare held t (.slice a n c) d ps) : SlG E good w (a, n, c) := by
  obtain ⟨s, e0, g⟩ := open_arg (decSlice ht ce dec) h
  have : (a, n, c) = s := by
    simp [Value.cells, SliceE] at e0
    obtain ⟨rfl, rfl, rfl⟩ := e0
    rfl
  rw [this]; exact g
theorem open_int {k : IntKind} {P : Program} {t : TypeId} {H : Type} {enc : TypeId × Value → H} {w : World} {base : Nat} {spare : Nat → Bool} {held : Bool} {n : Int} {d : DataW H} {ps : List MemPlace}
    (ht : P.underlying t = some (.int k)) (h : DataW.Trod enc P w base spare held t (.int k n) d ps) : k.min ≤ n ∧ n ≤ k.max := by
  obtain ⟨x, e0, g⟩ := open_arg (decInt ht) h
  simp [Value.cells, IntE] at e0
  subst e0
  exact g
theorem u64_rng {n : Int} (h : IntKind.u64.min ≤ n ∧ n ≤ IntKind.u64.max) : 0 ≤ n ∧ n < 18446744073709551616 := by
  have e1 : IntKind.u64.min = 0 := by decide
  have e2 : IntKind.u64.max = 18446744073709551615 := by decide
  omega
theorem i64_rng {n : Int} (h : IntKind.i64.min ≤ n ∧ n ≤ IntKind.i64.max) : -9223372036854775808 ≤ n ∧ n ≤ 9223372036854775807 := by
  have e1 : IntKind.i64.min = -9223372036854775808 := by decide
  have e2 : IntKind.i64.max = 9223372036854775807 := by decide
  omega
end Go.Vc
