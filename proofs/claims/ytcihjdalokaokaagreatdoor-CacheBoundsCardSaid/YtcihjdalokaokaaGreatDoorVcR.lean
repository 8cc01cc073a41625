/-
  From heaps to rows: what a call that keeps the old heap says of worlds; slices of pairs of strings that came in. Conditions: none.
-/
import Derived.Test.YtcihjdalokaokaaGreatDoorVcH
import Derived.WalkKit
import Derived.ProofKit
import Derived.OpenShut
import Derived.ShutString
import Derived.ChangeOld
import Derived.Below
import Derived.Deep.SlicePairs
set_option linter.unusedVariables false
namespace Go.Vc
open Go Go.RowKit

theorem calls_of_HC {P : Program} {f : FuncId} {args : Array Value} {w : World} {v0 : Value} (h : HC P f args w.heap fun v h' => Keep w.heap.size w.heap h' ∧ v = v0) :
    Calls P f args w fun e w' => e = .returned v0 ∧ Below w.heap.size w w' :=
  (h.run w rfl).mono fun e w' ⟨v, he, hs, hk, hv⟩ => by
    subst hv
    exact ⟨he, hs.os, hs.tape, hs.output, hk.size, hk.block⟩

def StrPairE : Enc (ByteArray × ByteArray) := ⟨2, fun p => [.string p.1, .string p.2], fun _ => rfl, fun p v h => by
  simp at h; rcases h with rfl | rfl <;> exact one_string _⟩
def strOf : Value → ByteArray | .string s => s | _ => ⟨#[]⟩

/-- a slice of pairs of strings that came in. -/
theorem open_pairs {H : Type} {enc : TypeId × Value → H} {P : Program} {w : World} {base : Nat} {spare : Nat → Bool} {held : Bool} {t e : TypeId} {f0 f1 : Field} {a : Option Addr} {n c : Nat} {d : DataW H} {ps : List MemPlace}
    (ht : P.underlying t = some (.slice e)) (he : P.underlying e = some (.struct #[f0, f1])) (ce : P.cellsOf e = 2) (o0 : f0.offset = 0) (o1 : f1.offset = 1) (c0 : P.cellsOf f0.type = 1) (c1 : P.cellsOf f1.type = 1)
    (u0 : P.underlying f0.type = some .string) (u1 : P.underlying f1.type = some .string) (h : DataW.Trod enc P w base spare held t (.slice a n c) d ps) :
    ∃ xs, Sl StrPairE w.heap a n xs ∧ n ≤ c ∧ n ≤ 9223372036854775807 := by
  obtain ⟨fuel, hf⟩ := h
  rcases Deep.open_slice_pairs ht he ce o0 o1 c0 c1 hf with ⟨hcs, _⟩ | ⟨x, len, cap, m, k, V0, V1, D0, D1, P0, P1, hcs, hb, hl, hm, hmm, _, hx⟩
  · simp [Value.cells] at hcs
    obtain ⟨rfl, rfl, rfl⟩ := hcs
    exact ⟨[], Sl.nil _ _, by omega, by omega⟩
  · simp [Value.cells] at hcs
    obtain ⟨rfl, rfl, rfl⟩ := hcs
    have hnm : n ≤ m := by rw [hmm]; split <;> omega
    unfold maxLen at hm
    refine ⟨(List.range n).map fun i => (strOf (V0 i), strOf (V1 i)), ⟨by simp, .inr ⟨x, rfl, fun i y hy j v hv => ?_⟩⟩, hl, by omega⟩
    have hi : i < n := by have := (List.getElem?_eq_some_iff.1 hy).1; simpa using this
    obtain ⟨h0, h1, t0, t1⟩ := hx i (by omega)
    obtain ⟨s0, e0, _, _⟩ := DataW.trod_string u0 t0
    obtain ⟨s1, e1, _, _⟩ := DataW.trod_string u1 t1
    simp only [List.cons.injEq, and_true] at e0 e1
    rw [e0] at h0; rw [e1] at h1
    simp [hi, e0, e1, strOf] at hy
    subst hy
    match j, hv with
    | 0, hv => simp [StrPairE] at hv; subst hv; exact h0
    | 1, hv => simp [StrPairE] at hv; subst hv; exact h1
    | j + 2, hv => simp [StrPairE] at hv
end Go.Vc
