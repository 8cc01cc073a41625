/-
  Slices that read as lists and none of whose blocks is of a given set; files on a heap, as rows of names and slices. Conditions: none.
-/
import Derived.Test.YtcihjdalokaokaaGreatDoorVcT
import Derived.Test.YtcihjdalokaokaaGreatDoorVcU
set_option linter.unusedSimpArgs false
set_option linter.unusedVariables false
namespace Go.Vc
open Go

section
variable {α : Type} {E : Enc α} {N M : Nat → Prop} {h h' : Heap} {a : Option Addr} {n : Nat} {xs : List α}
/-- blocks of a set all lie in a heap. -/
def Nb (N : Nat → Prop) (h : Heap) : Prop := ∀ q, N q → q < h.size
theorem Nb.mono {N : Nat → Prop} (hN : Nb N h) (hs : h.size ≤ h'.size) : Nb N h' := fun q hq => Nat.lt_of_lt_of_le (hN q hq) hs
def SlN (E : Enc α) (N : Nat → Prop) (h : Heap) (a : Option Addr) (n : Nat) (xs : List α) : Prop := Sl E h a n xs ∧ (xs ≠ [] → ∀ q, blk a q → ¬ N q)
theorem SlN.nil (N : Nat → Prop) (h : Heap) (a : Option Addr) : SlN E N h a 0 [] := ⟨Sl.nil _ _, fun h => absurd rfl h⟩
theorem SlN.len (hs : SlN E N h a n xs) : xs.length = n := hs.1.1
theorem SlN.sl (hs : SlN E N h a n xs) : Sl E h a n xs := hs.1
theorem SlN.upd (hs : SlN E N h a n xs) (u : Upd N h h') : SlN E N h' a n xs := by
  by_cases hx : xs = []
  · subst hx
    exact ⟨⟨hs.1.1, .inl rfl⟩, fun h => absurd rfl h⟩
  · exact ⟨hs.1.upd u (hs.2 hx), hs.2⟩
theorem SlN.keep (hs : SlN E N h a n xs) (k : Keep h.size h h') : SlN E N h' a n xs := hs.upd (k.upd N)
theorem Own.sln {T : TypeId} {B c : Nat} (ho : Own E T B h a n c xs) (hB : ∀ q, N q → q < B) : SlN E N h a n xs :=
  ⟨ho.sl, fun _ q hq hN => by have := (ho.block q hq).1; have := hB q hN; omega⟩
theorem SlN.lt (hz : 0 < E.sz) (hs : SlN E N h a n xs) (hx : xs ≠ []) : ∀ q, blk a q → q < h.size := fun q hq => by
  cases xs with
  | nil => exact absurd rfl hx
  | cons x xs =>
    obtain ⟨p, hp, hc⟩ := hs.1.get (i := 0) (x := x) rfl
    obtain ⟨p', e, hq'⟩ := hq
    rw [hp] at e
    cases e
    have hj : 0 < (E.enc x).length := by rw [E.len]; exact hz
    have h4 := cell_lt (hc 0 _ (List.getElem?_eq_getElem hj))
    rw [Addr.add_block, hq'] at h4
    exact h4
theorem SlN.turn (hz : 0 < E.sz) (hs : SlN E N h a n xs) (hM : ∀ q, q < h.size → M q → N q) : SlN E M h a n xs :=
  ⟨hs.1, fun hx q hq hm => hs.2 hx q hq (hM q (hs.lt hz hx q hq) hm)⟩
/-- an element's cells. -/
theorem SlN.row (hs : SlN E N h a n xs) {i : Nat} {x : α} (hx : xs[i]? = some x) : ∃ p, a = some p ∧ ∀ j v, (E.enc x)[j]? = some v → cell h ((p.add (i * E.sz)).add j) = some v := by
  obtain ⟨p, e, hp⟩ := hs.1.get hx
  exact ⟨p, e, fun j v hv => by rw [Addr.add_add]; exact hp j v hv⟩
end

/-- an empty literal. -/
theorem svc_empty_of {α : Type} {E : Enc α} {P : Program} {t e : TypeId} {bytes : Nat} {z : Value} (hA : App P t e E.sz bytes z) {h : Heap} {K : Value → Heap → Prop}
    (k : Own E e h.size (h.push (.cells #[] e (0, 0))) (some ⟨h.size, 0, none⟩) 0 0 [] → K (.slice (some ⟨h.size, 0, none⟩) 0 0) (h.push (.cells #[] e (0, 0)))) : SVC P (Instr.buildSlice t 0 (Array.mk [])) h K := by
  refine ⟨fun w hw => ?_⟩
  subst hw
  refine ⟨.slice (some ⟨w.heap.size, 0, none⟩) 0 0, w.alloc (.cells #[] e), ?_, Sane.push rfl, k ⟨rfl, Nat.le_refl _, .inr ⟨w.heap.size, _, rfl, Nat.le_refl _, push_at _ _, by simp, [], by simp⟩⟩⟩
  have hz : ∀ w : World, (zeroValue e).run P w = .ok z w := fun w => by
    have hz0 := hA.zero
    cases hi : P.info? e with
    | none => simp [hi] at hz0
    | some i => simp [hi] at hz0; simp [zeroValue, typeInfo, hi, hz0]
  have hu : ∀ w : World, (underlying t).run P w = .ok (.slice e) w := fun w => run_underlying hA.und w
  have hso : ∀ w : World, (sizeOf e).run P w = .ok E.sz w := fun w => run_szOf hA.size w
  have hr : Array.range 0 = #[] := by simp
  simp [Instr.buildSlice, hu, hso, hz, Instr.fill, newRow, hr]

/-- a file as it lies in a row: a name, and a slice of pages, which read as a list. -/
structure Fl where
  n : ByteArray
  a : Option Addr
  len : Nat
  cap : Nat
  pages : List ByteArray
def FlE : Enc Fl := ⟨2, fun f => [.string f.n, .slice f.a f.len f.cap], fun _ => rfl, fun f v h => by
  simp only [List.mem_cons, List.not_mem_nil, or_false] at h
  rcases h with rfl | rfl
  · exact one_string _
  · exact one_slice _ _ _⟩
abbrev Fl.val (f : Fl) : Value := .agg #[.string f.n, .slice f.a f.len f.cap]
def Fl.pl (f : Fl) : ByteArray × List ByteArray := (f.n, f.pages)
structure FlOk (N : Nat → Prop) (h : Heap) (f : Fl) : Prop where
  sl : SlN StrE N h f.a f.len f.pages
  cap : f.len ≤ f.cap
/-- files in a slice. -/
structure FsN (N : Nat → Prop) (h : Heap) (a : Option Addr) (n : Nat) (fs : List Fl) : Prop where
  sl : SlN FlE N h a n fs
  each : ∀ f ∈ fs, FlOk N h f
section
variable {N M : Nat → Prop} {h h' : Heap} {a : Option Addr} {n : Nat} {fs : List Fl} {f : Fl}
theorem FlOk.upd (hf : FlOk N h f) (u : Upd N h h') : FlOk N h' f := ⟨hf.sl.upd u, hf.cap⟩
theorem FlOk.keep (hf : FlOk N h f) (k : Keep h.size h h') : FlOk N h' f := hf.upd (k.upd N)
theorem FlOk.turn (hf : FlOk N h f) (hM : ∀ q, q < h.size → M q → N q) : FlOk M h f := ⟨hf.sl.turn (by decide) hM, hf.cap⟩
theorem FsN.upd (hf : FsN N h a n fs) (u : Upd N h h') : FsN N h' a n fs := ⟨hf.sl.upd u, fun f hm => (hf.each f hm).upd u⟩
theorem FsN.keep (hf : FsN N h a n fs) (k : Keep h.size h h') : FsN N h' a n fs := hf.upd (k.upd N)
theorem FsN.turn (hf : FsN N h a n fs) (hM : ∀ q, q < h.size → M q → N q) : FsN M h a n fs := ⟨hf.sl.turn (by decide) hM, fun f hm => (hf.each f hm).turn hM⟩
theorem FsN.nil (N : Nat → Prop) (h : Heap) (a : Option Addr) : FsN N h a 0 [] := ⟨SlN.nil _ _ _, fun _ h => by cases h⟩
theorem FsN.len (hf : FsN N h a n fs) : fs.length = n := hf.sl.len
/-- a file in a row. -/
theorem FsN.row (hf : FsN N h a n fs) {i : Nat} (hx : fs[i]? = some f) : ∃ p, a = some p ∧ (∀ j v, (FlE.enc f)[j]? = some v → cell h ((p.add (i * 2)).add j) = some v) ∧ FlOk N h f := by
  obtain ⟨p, e, hp⟩ := hf.sl.row hx
  exact ⟨p, e, hp, hf.each f (List.mem_of_getElem? hx)⟩
end
end Go.Vc
