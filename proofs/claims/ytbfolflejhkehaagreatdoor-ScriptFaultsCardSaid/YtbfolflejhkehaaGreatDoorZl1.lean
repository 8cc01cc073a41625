/-
  Texts of this seat, laid one behind the other: VcH VcM VcN VcP VcQ DkA G1 Dk1 VcU VcV VcR VcT VcW DkS VcX KvA ScA ScB ScC Sc2 ScW CeA. Conditions: none.
-/
import Derived.Test.YtbfolflejhkehaaGreatDoorZl0
import Derived.Laws.StructEq
import Derived.Maps.RangeRun
import Derived.Laws.IdiomStrings
import Derived.Laws.BytesArg
import Derived.Laws.Pointers
import Derived.Laws.Small
import Derived.Test.YtbfolflejhkehaaGreatDoorProg
import Derived.KernelRfl
import Derived.Laws.MakeOwn
import Derived.WalkKit
import Derived.ProofKit
import Derived.OpenShut
import Derived.ShutString
import Derived.ChangeOld
import Derived.Below
import Derived.Deep.SlicePairs
import Derived.WalkArith
import Derived.Lib.SplitLaws
import Derived.Lib.AtoiAllCases
import Derived.Lib.ItoaNum
import Derived.Lib.Split
import Derived.Shelf.Strings.Builder1
import Derived.Shelf.Lay
import Derived.Ground.NamesProg
import Derived.DeepKeys
section
set_option linter.unusedSimpArgs false
set_option linter.unusedVariables false
namespace Go.Vc
open Go

def cell (h : Heap) (p : Addr) : Option Value :=
  match h[p.block]? with
  | some (.cells c _ _) => if p.spot.isSome then none else c[p.off]?
  | _ => none
theorem cell_eq (w : World) (p : Addr) : w.cell? p = cell w.heap p := rfl
theorem cell_lt {h : Heap} {p : Addr} {v : Value} (hc : cell h p = some v) : p.block < h.size := by
  unfold cell at hc
  by_cases hb : p.block < h.size
  · exact hb
  · rw [Array.getElem?_eq_none (by omega)] at hc; cases hc
theorem cell_congr {h h' : Heap} {p : Addr} (e : h'[p.block]? = h[p.block]?) : cell h' p = cell h p := by unfold cell; rw [e]
theorem Addr.add_add (p : Addr) (a b : Nat) : (p.add a).add b = p.add (a + b) := by
  unfold Addr.add
  by_cases ha : a = 0 <;> by_cases hb : b = 0 <;> simp [ha, hb]
  omega
theorem Addr.add_block (p : Addr) (a : Nat) : (p.add a).block = p.block := by unfold Addr.add; split <;> rfl
theorem Addr.add_row (b o k : Nat) : (⟨b, o, none⟩ : Addr).add k = ⟨b, o + k, none⟩ := by unfold Addr.add; split <;> simp_all

/-- below B nothing has turned. -/
structure Keep (B : Nat) (h h' : Heap) : Prop where
  size : h.size ≤ h'.size
  block : ∀ b, b < B → h'[b]? = h[b]?
theorem Keep.refl (B : Nat) (h : Heap) : Keep B h h := ⟨Nat.le_refl _, fun _ _ => rfl⟩
theorem Keep.trans {B : Nat} {a b c : Heap} (h : Keep B a b) (k : Keep B b c) : Keep B a c :=
  ⟨Nat.le_trans h.size k.size, fun i hi => (k.block i hi).trans (h.block i hi)⟩
theorem Keep.mono {B C : Nat} {a b : Heap} (h : Keep B a b) (hc : C ≤ B) : Keep C a b := ⟨h.size, fun i hi => h.block i (Nat.lt_of_lt_of_le hi hc)⟩
theorem Keep.cell {B : Nat} {h h' : Heap} (k : Keep B h h') {p : Addr} (hp : p.block < B) : Vc.cell h' p = Vc.cell h p := cell_congr (k.block _ hp)
theorem Keep.cell_some {h h' : Heap} (k : Keep h.size h h') {p : Addr} {v : Value} (hc : Vc.cell h p = some v) : Vc.cell h' p = some v := by
  rw [k.cell (cell_lt hc)]; exact hc
theorem Keep.push (B : Nat) (h : Heap) (o : Obj) (hB : B ≤ h.size) : Keep B h (h.push o) :=
  ⟨by simp, fun b hb => by rw [Array.getElem?_push, if_neg (by omega)]⟩
theorem push_at (h : Heap) (o : Obj) : (h.push o)[h.size]? = some o := by simp
theorem push_old (h : Heap) (o : Obj) {b : Nat} (hb : b < h.size) : (h.push o)[b]? = h[b]? := by rw [Array.getElem?_push, if_neg (by omega)]

/-- what has turned lies in blocks of S. -/
structure Upd (S : Nat → Prop) (h h' : Heap) : Prop where
  size : h.size ≤ h'.size
  block : ∀ b, b < h.size → ¬ S b → h'[b]? = h[b]?
theorem Upd.refl (S : Nat → Prop) (h : Heap) : Upd S h h := ⟨Nat.le_refl _, fun _ _ _ => rfl⟩
theorem Upd.trans {S : Nat → Prop} {a b c : Heap} (h : Upd S a b) (k : Upd S b c) : Upd S a c :=
  ⟨Nat.le_trans h.size k.size, fun i hi hs => (k.block i (Nat.lt_of_lt_of_le hi h.size) hs).trans (h.block i hi hs)⟩
theorem Upd.mono {S T : Nat → Prop} {a b : Heap} (h : Upd S a b) (hs : ∀ i, S i → T i) : Upd T a b := ⟨h.size, fun i hi ht => h.block i hi fun s => ht (hs i s)⟩
theorem Upd.keep {S : Nat → Prop} {B : Nat} {a b : Heap} (h : Upd S a b) (hB : B ≤ a.size) (hs : ∀ i, S i → B ≤ i) : Keep B a b :=
  ⟨h.size, fun i hi => h.block i (Nat.lt_of_lt_of_le hi hB) fun s => absurd (hs i s) (by omega)⟩
theorem Keep.upd {a b : Heap} (h : Keep a.size a b) (S : Nat → Prop) : Upd S a b := ⟨h.size, fun i hi _ => h.block i hi⟩
def blk (a : Option Addr) (b : Nat) : Prop := ∃ p, a = some p ∧ p.block = b

/- ------------------------------------------------------------------ reading -/

def scT (P : Program) (t : TypeId) : Bool := match P.underlying t with | some (.struct _) | some (.array _ _) | none => false | _ => true
theorem run_isAgg_sc {P : Program} {t : TypeId} (ht : scT P t = true) (w : World) : (isAgg t).run P w = .ok false w := by
  unfold scT at ht
  cases hu : P.underlying t with
  | none => simp [hu] at ht
  | some d => cases d <;> simp_all [isAgg, run_underlying hu]
theorem reads_load {P : Program} {t : TypeId} {h : Heap} {p : Addr} {v : Value} (ht : scT P t = true) (hc : cell h p = some v) :
    Reads P (Instr.loadAt t (.pointer (some p))) h v :=
  ⟨fun w hw => by
    subst hw
    simp only [Instr.loadAt, Instr.sureAddr, Sem.run_bind, Sem.run_pure, Result.andThen_ok, loadVar, run_isAgg_sc ht, Bool.false_eq_true, if_false, run_load, cell_eq, hc]⟩

theorem run_loadCells {P : Program} {w : World} {p : Addr} {n : Nat} {cs : List Value} (hn : cs.length = n) (hc : ∀ j v, cs[j]? = some v → cell w.heap (p.add j) = some v) :
    (loadCells p n).run P w = .ok cs.toArray w := by
  have key : ∀ (k i : Nat) (acc : Array Value), i + k = n → (loadCellsFrom p i k acc).run P w = .ok (acc ++ (cs.drop i).toArray) w := by
    intro k
    induction k with
    | zero => intro i acc h; simp [loadCellsFrom]; omega
    | succ k ih =>
      intro i acc h
      have hi : i < cs.length := by omega
      have hv := hc i cs[i] (List.getElem?_eq_getElem hi)
      simp only [loadCellsFrom, Sem.run_bind, run_load, cell_eq, hv, Result.andThen_ok]
      rw [ih (i + 1) _ (by omega), List.drop_eq_getElem_cons hi]
      simp
  rw [loadCells, key n 0 #[] (by omega)]
  simp

def agT (P : Program) (t : TypeId) (n : Nat) : Bool := aggT P t && (match szOf P t with | some m => Nat.beq m n | none => false)
theorem agT_spec {P : Program} {t : TypeId} {n : Nat} (h : agT P t n = true) : (∀ w, (isAgg t).run P w = .ok true w) ∧ szOf P t = some n := by
  simp only [agT, Bool.and_eq_true] at h
  constructor
  · intro w
    have ha := h.1
    unfold aggT at ha
    cases hu : P.underlying t with
    | none => simp [hu] at ha
    | some d => cases d <;> simp_all [isAgg, run_underlying hu]
  · cases hs : szOf P t with
    | none => simp [hs] at h
    | some m => simp only [hs] at h; rw [Nat.eq_of_beq_eq_true h.2]
theorem reads_load_agg {P : Program} {t : TypeId} {n : Nat} {h : Heap} {p : Addr} {cs : List Value} (ht : agT P t n = true) (hn : cs.length = n)
    (hc : ∀ j v, cs[j]? = some v → cell h (p.add j) = some v) : Reads P (Instr.loadAt t (.pointer (some p))) h (.agg cs.toArray) :=
  ⟨fun w hw => by
    subst hw
    obtain ⟨h1, h2⟩ := agT_spec ht
    simp only [Instr.loadAt, Instr.sureAddr, Sem.run_bind, Sem.run_pure, Result.andThen_ok, loadVar, h1, if_true, run_szOf h2, run_loadCells hn hc]⟩

/- ------------------------------------------------------------------ slices that read as lists -/

structure Enc (α : Type) where
  sz : Nat
  enc : α → List Value
  len : ∀ x, (enc x).length = sz
  one : ∀ x v, v ∈ enc x → (∀ c, v ≠ .agg c) ∧ (∀ c, v ≠ .tuple c)

section
variable {α : Type} {E : Enc α}

/-- from an address on lie elements. -/
def At (E : Enc α) (h : Heap) (p : Addr) (xs : List α) : Prop :=
  ∀ i x, xs[i]? = some x → ∀ j v, (E.enc x)[j]? = some v → cell h (p.add (i * E.sz + j)) = some v
/-- a slice of so many elements reads as a list. -/
def Sl (E : Enc α) (h : Heap) (a : Option Addr) (n : Nat) (xs : List α) : Prop :=
  xs.length = n ∧ (xs = [] ∨ ∃ p, a = some p ∧ At E h p xs)

theorem Sl.nil (h : Heap) (a : Option Addr) : Sl E h a 0 [] := ⟨rfl, .inl rfl⟩
theorem Sl.len {h : Heap} {a : Option Addr} {n : Nat} {xs : List α} (hs : Sl E h a n xs) : xs.length = n := hs.1
theorem At.keep (hz : 0 < E.sz) {h h' : Heap} {p : Addr} {xs : List α} (hs : At E h p xs) (k : Keep h.size h h') : At E h' p xs :=
  fun i x hx j v hv => k.cell_some (hs i x hx j v hv)
theorem Sl.keep {h h' : Heap} {a : Option Addr} {n : Nat} {xs : List α} (hs : Sl E h a n xs) (k : Keep h.size h h') : Sl E h' a n xs :=
  ⟨hs.1, hs.2.imp id fun ⟨p, e, hp⟩ => ⟨p, e, fun i x hx j v hv => k.cell_some (hp i x hx j v hv)⟩⟩
theorem Sl.get {h : Heap} {a : Option Addr} {n : Nat} {xs : List α} (hs : Sl E h a n xs) {i : Nat} {x : α} (hx : xs[i]? = some x) :
    ∃ p, a = some p ∧ ∀ j v, (E.enc x)[j]? = some v → cell h (p.add (i * E.sz + j)) = some v := by
  rcases hs.2 with rfl | ⟨p, e, hp⟩
  · simp at hx
  · exact ⟨p, e, hp i x hx⟩
theorem Sl.head {h : Heap} {a : Option Addr} {n : Nat} {x : α} {xs : List α} (hs : Sl E h a n (x :: xs)) :
    ∃ p, a = some p ∧ ∀ j v, (E.enc x)[j]? = some v → cell h (p.add j) = some v := by
  obtain ⟨p, e, hp⟩ := hs.get (i := 0) (x := x) rfl
  exact ⟨p, e, fun j v hv => by have := hp j v hv; rwa [Nat.zero_mul, Nat.zero_add] at this⟩
theorem Sl.tail {h : Heap} {a : Option Addr} {n c : Nat} {x : α} {xs : List α} (hs : Sl E h a n (x :: xs)) (hc : n ≤ c) :
    Sl E h (subA a 1 c E.sz) (n - 1) xs := by
  have hl := hs.1
  simp only [List.length_cons] at hl
  refine ⟨by omega, ?_⟩
  by_cases h1 : c = 1
  · exact .inl (by cases xs with | nil => rfl | cons _ _ => simp at hl; omega)
  · obtain ⟨p, rfl, hp⟩ := hs.get (i := 0) (x := x) rfl
    rcases hs.2 with e | ⟨q, e, hq⟩
    · cases e
    · cases e
      refine .inr ⟨p.add (1 * E.sz), by simp [subA, h1], fun i y hy j v hv => ?_⟩
      rw [Addr.add_add]
      have := hq (i + 1) y (by simpa using hy) j v hv
      rw [show 1 * E.sz + (i * E.sz + j) = (i + 1) * E.sz + j by rw [Nat.add_mul]; omega]
      exact this

/- ------------------------------------------------------------------ a slice of the call's own -/

def Own (E : Enc α) (T : TypeId) (B : Nat) (h : Heap) (a : Option Addr) (n c : Nat) (xs : List α) : Prop :=
  xs.length = n ∧ n ≤ c ∧ ((a = none ∧ c = 0) ∨ ∃ b cells, a = some ⟨b, 0, none⟩ ∧ B ≤ b ∧ h[b]? = some (.cells cells T (0, 0)) ∧ cells.size = c * E.sz ∧
    ∃ rest, cells.toList = xs.flatMap E.enc ++ rest)

theorem Own.nil (T : TypeId) (B : Nat) (h : Heap) : Vc.Own E T B h none 0 0 [] := ⟨rfl, Nat.le_refl _, .inl ⟨rfl, rfl⟩⟩
theorem Own.block {T : TypeId} {B : Nat} {h : Heap} {a : Option Addr} {n c : Nat} {xs : List α} (ho : Vc.Own E T B h a n c xs) : ∀ b, blk a b → B ≤ b ∧ b < h.size := by
  rintro b ⟨p, rfl, rfl⟩
  rcases ho.2.2 with ⟨e, _⟩ | ⟨b, cells, e, hB, hb, _⟩
  · cases e
  · cases e
    refine ⟨hB, ?_⟩
    by_cases hlt : b < h.size
    · exact hlt
    · rw [Array.getElem?_eq_none (by omega)] at hb; cases hb
theorem flat_get (xs : List α) : ∀ {i : Nat} {x : α} {j : Nat} {v : Value}, xs[i]? = some x → (E.enc x)[j]? = some v → (xs.flatMap E.enc)[i * E.sz + j]? = some v := by
  induction xs with
  | nil => intro i x j v h; simp at h
  | cons y ys ih =>
    intro i x j v hx hv
    cases i with
    | zero =>
      simp at hx; subst hx
      rw [List.flatMap_cons, Nat.zero_mul, Nat.zero_add]
      have hj := (List.getElem?_eq_some_iff.1 hv).1
      rw [List.getElem?_append_left hj]; exact hv
    | succ i =>
      have := ih (i := i) (x := x) (j := j) (v := v) (by simpa using hx) hv
      rw [List.flatMap_cons, List.getElem?_append_right (by rw [E.len, Nat.add_mul]; omega), E.len,
        show (i + 1) * E.sz + j - E.sz = i * E.sz + j by rw [Nat.add_mul]; omega]
      exact this
theorem flat_len (xs : List α) : (xs.flatMap E.enc).length = xs.length * E.sz := by
  induction xs with
  | nil => simp
  | cons x xs ih => simp [List.flatMap_cons, E.len, ih, Nat.add_mul]; omega
theorem Own.sl {T : TypeId} {B : Nat} {h : Heap} {a : Option Addr} {n c : Nat} {xs : List α} (ho : Vc.Own E T B h a n c xs) : Sl E h a n xs := by
  obtain ⟨hl, hc, hr⟩ := ho
  refine ⟨hl, ?_⟩
  rcases hr with ⟨rfl, rfl⟩ | ⟨b, cells, rfl, hB, hb, hsz, rest, hrest⟩
  · exact .inl (List.eq_nil_of_length_eq_zero (by omega))
  · refine .inr ⟨_, rfl, fun i x hx j v hv => ?_⟩
    have hf := flat_get (E := E) xs hx hv
    have hlt := (List.getElem?_eq_some_iff.1 hf).1
    rw [Addr.add_row]
    unfold cell
    simp only [hb, Option.isSome_none, Bool.false_eq_true, if_false, Nat.zero_add]
    rw [← Array.getElem?_toList, hrest, List.getElem?_append_left hlt]
    exact hf
theorem Own.upd {T : TypeId} {B : Nat} {h h' : Heap} {a : Option Addr} {n c : Nat} {xs : List α} {S : Nat → Prop} (ho : Vc.Own E T B h a n c xs) (u : Upd S h h') (hs : ∀ b, blk a b → ¬ S b) :
    Vc.Own E T B h' a n c xs := by
  obtain ⟨hl, hc, hr⟩ := ho
  refine ⟨hl, hc, hr.imp id ?_⟩
  rintro ⟨b, cells, rfl, hB, hb, rest⟩
  have hlt : b < h.size := by
    by_cases hlt : b < h.size
    · exact hlt
    · rw [Array.getElem?_eq_none (by omega)] at hb; cases hb
  exact ⟨b, cells, rfl, hB, by rw [u.block b hlt (hs b ⟨_, rfl, rfl⟩)]; exact hb, rest⟩
end

/- ------------------------------------------------------------------ writing into a row -/

theorem setCell_heap (w : World) (b o : Nat) (v : Value) : (w.setCell ⟨b, o, none⟩ v).heap = w.heap.modify b fun
    | .cells c elem frozen => .cells (c.setIfInBounds o v) elem frozen
    | x => x := by
  have e : (fun x : Obj => match x with | .cells c elem frozen => Obj.cells (if (⟨b, o, none⟩ : Addr).spot.isSome then c else c.setIfInBounds o v) elem frozen | x => x) =
      (fun x : Obj => match x with | .cells c elem frozen => Obj.cells (c.setIfInBounds o v) elem frozen | x => x) := by
    funext x; cases x <;> rfl
  exact congrArg (w.heap.modify b) e

theorem run_storeCells {P : Program} (b T : Nat) : ∀ (vs : List Value) (o : Nat) (cells : Array Value) (w : World) (i : Nat), w.heap[b]? = some (.cells cells T (0, 0)) → o + i + vs.length ≤ cells.size →
    (∀ v ∈ vs, (∀ c, v ≠ .agg c) ∧ (∀ c, v ≠ .tuple c)) →
    ∃ w' cells', (storeCells ⟨b, o, none⟩ vs i).run P w = .ok () w' ∧ Sane w w' ∧ w'.heap.size = w.heap.size ∧ w'.heap[b]? = some (.cells cells' T (0, 0)) ∧ cells'.size = cells.size ∧
      cells'.toList = putL cells.toList (o + i) vs ∧ ∀ k, k ≠ b → w'.heap[k]? = w.heap[k]?
  | [], o, cells, w, i, hb, hl, hv => ⟨w, cells, rfl, Sane.refl w, rfl, hb, rfl, rfl, fun _ _ => rfl⟩
  | v :: vs, o, cells, w, i, hb, hl, hv => by
    simp only [List.length_cons] at hl
    have hlt : b < w.heap.size := by
      by_cases hlt : b < w.heap.size
      · exact hlt
      · rw [Array.getElem?_eq_none (by omega)] at hb; cases hb
    have hcell : w.cell? ⟨b, o + i, none⟩ = some (cells[o + i]'(by omega)) := by
      unfold World.cell?
      simp only [hb, Option.isSome_none, Bool.false_eq_true, if_false]
      rw [Array.getElem?_eq_getElem (by omega)]
    have hfr : w.frozen? ⟨b, o + i, none⟩ = false := by unfold World.frozen?; simp [hb]
    have hst : (store ⟨b, o + i, none⟩ v).run P w = .ok () (w.setCell ⟨b, o + i, none⟩ v) := by
      have h1 := hv v List.mem_cons_self
      unfold store
      cases v <;> first
        | exact absurd rfl (h1.1 _)
        | exact absurd rfl (h1.2 _)
        | simp [Sem.run, hcell, hfr]
    have hb' : (w.setCell ⟨b, o + i, none⟩ v).heap[b]? = some (.cells (cells.setIfInBounds (o + i) v) T (0, 0)) := by
      rw [setCell_heap, Array.getElem?_modify, if_pos rfl, hb, Option.map_some]
    obtain ⟨w', cells', h1, h2, h3, h4, h5, h6, h7⟩ := run_storeCells (P := P) b T vs o (cells.setIfInBounds (o + i) v) (w.setCell ⟨b, o + i, none⟩ v) (i + 1) hb' (by simp; omega) (fun u hu => hv u (List.mem_cons_of_mem _ hu))
    refine ⟨w', cells', ?_, ?_, ?_, h4, ?_, ?_, fun k hk => ?_⟩
    · simp only [storeCells, Addr.add_row, Sem.run_bind, hst, Result.andThen_ok]; exact h1
    · exact Sane.trans (b := w.setCell ⟨b, o + i, none⟩ v) (Sane.turn hb rfl (by simp [World.setCell]) (fun k _ hk => by rw [setCell_heap, Array.getElem?_modify, if_neg (Ne.symm hk)])) h2
    · rw [h3]; simp [World.setCell]
    · rw [h5]; simp
    · rw [h6]; simp [putL, Nat.add_assoc]
    · rw [h7 k hk, setCell_heap, Array.getElem?_modify, if_neg (Ne.symm hk)]

theorem putL_len : ∀ (vs cs : List Value) (k : Nat), (putL cs k vs).length = cs.length
  | [], _, _ => rfl
  | v :: vs, cs, k => by simp [putL, putL_len vs]
theorem putL_prefix : ∀ (vs xs rest : List Value), vs.length ≤ rest.length → putL (xs ++ rest) xs.length vs = xs ++ vs ++ rest.drop vs.length
  | [], xs, rest, _ => by simp [putL]
  | v :: vs, xs, [], h => by simp at h
  | v :: vs, xs, r :: rest, h => by
    simp only [putL]
    rw [List.set_append_right _ _ (Nat.le_refl _), Nat.sub_self, List.set_cons_zero, show xs ++ v :: rest = (xs ++ [v]) ++ rest by simp,
      show xs.length + 1 = (xs ++ [v]).length by simp, putL_prefix vs (xs ++ [v]) rest (by simpa using h)]
    simp

/- ------------------------------------------------------------------ a slice's literal; append -/

def zerosL (z : List Value) (n : Nat) : List Value := (List.range n).map fun i => z.getD (i % z.length) default
/-- the cells of a slice's literal. -/
def bsCells (P : Program) (t : TypeId) (n : Nat) (parts : List (Nat × Value)) : Option (TypeId × List Value) :=
  match P.underlying t with
  | some (.slice e) => match szOf P e, (P.info? e).bind (·.zero) with
    | some sz, some z => match Nat.ble (n * sz) 4096 && !(Nat.beq (n * sz) 0) with
      | true => match fillL (fun i => some (i * sz, sz)) (zerosL z.cells.toList (n * sz)) parts with
        | some cs => some (e, cs)
        | none => none
      | false => none
    | _, _ => none
  | _ => none
theorem svc_buildSlice {P : Program} {t : TypeId} {n : Nat} {parts : List (Nat × Value)} {e : TypeId} {cs : List Value} {h : Heap} {K : Value → Heap → Prop}
    (hb : bsCells P t n parts = some (e, cs)) (k : K (.slice (some ⟨h.size, 0, none⟩) n n) (h.push (.cells cs.toArray e (0, 0)))) :
    SVC P (Instr.buildSlice t n parts.toArray) h K := by
  refine ⟨fun w hw => ?_⟩
  subst hw
  unfold bsCells at hb
  cases hu : P.underlying t with
  | none => simp [hu] at hb
  | some d =>
    cases d <;> simp only [hu] at hb <;> try (cases hb; done)
    case slice e' =>
      cases hs : szOf P e' with
      | none => simp [hs] at hb
      | some sz =>
        cases hi : P.info? e' with
        | none => simp [hs, hi] at hb
        | some inf =>
          cases hz : inf.zero with
          | none => simp [hs, hi, hz] at hb
          | some z =>
            simp only [hs, hi, hz, Option.bind_some] at hb
            cases hc : Nat.ble (n * sz) 4096 && !(Nat.beq (n * sz) 0) with
            | false => simp [hc] at hb
            | true =>
              simp only [hc] at hb
              simp only [Bool.and_eq_true, Bool.not_eq_true'] at hc
              have h1 := Nat.le_of_ble_eq_true hc.1
              have h2 := Nat.ne_of_beq_eq_false hc.2
              cases hf : fillL (fun i => some (i * sz, sz)) (zerosL z.cells.toList (n * sz)) parts with
              | none => simp [hf] at hb
              | some cs' =>
                simp only [hf, Option.some.injEq, Prod.mk.injEq] at hb
                obtain ⟨rfl, rfl⟩ := hb
                have hz0 : ((Array.range (n * sz)).map (z.cells[· % z.cells.size]!)) = (zerosL z.cells.toList (n * sz)).toArray := by
                  apply Array.toList_inj.1
                  simp only [Array.toList_map, Array.toList_range, zerosL]
                  refine List.map_congr_left fun i _ => ?_
                  simp [getElem!_def, List.getD_eq_getElem?_getD]
                  cases z.cells[i % z.cells.size]? <;> rfl
                have hfill := fillL_eq (place' := fun i => some (i * sz, sz)) (fun _ => rfl) hf
                refine ⟨.slice (some ⟨w.heap.size, 0, none⟩) n n, { w with heap := w.heap.push (.cells cs'.toArray e' (0, 0)) }, ?_, Sane.push rfl, k⟩
                · simp only [Instr.buildSlice, Sem.run_bind, run_underlying hu, Result.andThen_ok, run_szOf hs]
                  rw [if_neg (by omega)]
                  have hzv : (zeroValue e').run P w = .ok z w := by simp [zeroValue, typeInfo, hi, hz]
                  simp only [if_neg h2, Sem.run_bind, hzv, Result.andThen_ok, Sem.run_pure, hz0, hfill]
                  rfl

/-- what is known of an append's types. -/
structure App (P : Program) (T e : TypeId) (sz by_ : Nat) (z : Value) : Prop where
  und : P.underlying T = some (.slice e)
  size : szOf P e = some sz
  bytes : (P.info? e).map (·.bytes) = some by_
  zero : (P.info? e).bind (·.zero) = some z
  zlen : z.cells.size = sz
  pos : 0 < sz
  bpos : 0 < by_

theorem nextcap (n c : Nat) (hc : c < n) : ∀ r k, k ≤ 2 * n → Builtin.growBy n r k ≤ 2 * n + 192 + n / 4 + n
  | 0, k, h => by simp [Builtin.growBy]; omega
  | r + 1, k, h => by
    simp only [Builtin.growBy]
    split
    · omega
    · rename_i hk
      have : k < n := by omega
      by_cases h2 : k + (k + 768) / 4 ≤ 2 * n
      · exact nextcap n c hc r _ h2
      · cases r with
        | zero => simp [Builtin.growBy]; omega
        | succ r => simp only [Builtin.growBy]; rw [if_pos (by omega)]; omega
theorem nextslicecap_le (n c : Nat) (hc : c < n) : Builtin.nextslicecap n c ≤ 4 * n + 192 := by
  unfold Builtin.nextslicecap
  split
  · omega
  · split
    · omega
    · have := nextcap n c hc 4 c (by omega)
      omega

theorem svc_append {α : Type} {E : Enc α} {P : Program} {T e : TypeId} {bytes : Nat} {z : Value} {B : Nat} {h : Heap} {a b : Option Addr} {n c m c2 : Nat} {xs ys : List α} {ty : TypeId} {K : Value → Heap → Prop}
    (hA : App P T e E.sz bytes z) (ho : Vc.Own E e B h a n c xs) (hB : B ≤ h.size) (hs : Sl E h b m ys) (hroom : (4 * (n + m) + 192) * bytes ≤ 2 ^ 48)
    (k : ∀ a' c' h', Vc.Own E e B h' a' (n + m) c' (xs ++ ys) → Upd (blk a) h h' → (∀ i, blk a' i → blk a i ∨ i = h.size) → K (.slice a' (n + m) c') h') :
    SVC P (Builtin.append_ #[T, T] ty #[.slice a n c, .slice b m c2]) h K := by
  refine ⟨fun w hw => ?_⟩
  subst hw
  obtain ⟨hu, hsz, hby, hze, hzl, hpos, hbpos⟩ := hA
  have hsizeOf := fun w : World => run_szOf (P := P) hsz w
  have hti : ∀ w : World, ∃ i, P.info? e = some i ∧ (typeInfo e).run P w = .ok i w ∧ i.bytes = bytes ∧ i.zero = some z := fun w => by
    cases hi : P.info? e with
    | none => simp [hi] at hby
    | some i => simp [hi] at hby hze; exact ⟨i, rfl, by simp [typeInfo, hi], hby, hze⟩
  have hzero : ∀ w : World, (zeroValue e).run P w = .ok z w := fun w => by
    obtain ⟨i, h1, h2, h3, h4⟩ := hti w
    simp [zeroValue, h2, h4]
  have hysl : (ys.flatMap E.enc).length = m * E.sz := by rw [flat_len, hs.1]
  -- what is read of the second
  have hread : (Builtin.firstCells E.sz m (.slice b m c2)).run P w = .ok (ys.flatMap E.enc).toArray w := by
    rcases hs.2 with rfl | ⟨p, rfl, hp⟩
    · have hm : m = 0 := by have := hs.1; simpa using this.symm
      subst hm
      cases b <;> simp [Builtin.firstCells, loadCells, loadCellsFrom]
    · simp only [Builtin.firstCells]
      refine run_loadCells hysl fun j v hv => ?_
      -- which element
      have hj : j < m * E.sz := by rw [← hysl]; exact (List.getElem?_eq_some_iff.1 hv).1
      have hi : j / E.sz < ys.length := by rw [hs.1]; exact Nat.div_lt_of_lt_mul (by rw [Nat.mul_comm]; exact hj)
      have hr : j % E.sz < E.sz := Nat.mod_lt _ hpos
      have hx : ys[j / E.sz]? = some ys[j / E.sz] := List.getElem?_eq_getElem hi
      have hlen := E.len ys[j / E.sz]
      have hvj : (E.enc ys[j / E.sz])[j % E.sz]? = some ((E.enc ys[j / E.sz])[j % E.sz]'(by omega)) := List.getElem?_eq_getElem (by omega)
      have hf := flat_get ys hx hvj
      rw [Nat.mul_comm, Nat.div_add_mod] at hf
      rw [hv] at hf
      have := hp _ _ hx _ _ hvj
      rw [Nat.mul_comm, Nat.div_add_mod] at this
      rw [this, ← hf]
  have hone : ∀ v ∈ ys.flatMap E.enc, (∀ c, v ≠ .agg c) ∧ (∀ c, v ≠ .tuple c) := fun v hv => by
    obtain ⟨x, _, hx⟩ := List.mem_flatMap.1 hv
    exact E.one x v hx
  obtain ⟨hl, hnc, hr⟩ := ho
  by_cases hfit : n + m ≤ c
  · rcases hr with ⟨rfl, rfl⟩ | ⟨bb, cells, rfl, hBb, hbb, hcs, rest, hrest⟩
    · have hm : m = 0 := by omega
      have hn : n = 0 := by omega
      subst hm; subst hn
      have hxs : xs = [] := List.eq_nil_of_length_eq_zero hl
      have hys : ys = [] := List.eq_nil_of_length_eq_zero hs.1
      subst hxs; subst hys
      exact ⟨.slice none 0 0, w, by simp [Builtin.append_, run_underlying hu, hsizeOf, Builtin.lenOf, hread], Sane.refl w, k _ _ _ ⟨rfl, Nat.le_refl _, .inl ⟨rfl, rfl⟩⟩ (Upd.refl _ _) (fun i hi => .inl hi)⟩
    · have hxl : (xs.flatMap E.enc).length = n * E.sz := by rw [flat_len, hl]
      have hcl : cells.toList.length = c * E.sz := by simpa using hcs
      have hrl : rest.length = c * E.sz - n * E.sz := by
        have := congrArg List.length hrest
        rw [hcl, List.length_append, hxl] at this; omega
      have hmul : (n + m) * E.sz ≤ c * E.sz := Nat.mul_le_mul_right _ hfit
      rw [Nat.add_mul] at hmul
      obtain ⟨w', cells', h1, h2, h3, h4, h5, h6, h7⟩ := run_storeCells (P := P) bb e (ys.flatMap E.enc) (n * E.sz) cells w 0 hbb (by rw [hysl, hcs]; omega) hone
      refine ⟨_, w', ?_, h2, k _ _ _ ⟨by simp [hl, hs.1], hfit, .inr ⟨bb, cells', rfl, hBb, h4, by rw [h5, hcs], rest.drop (ys.flatMap E.enc).length, ?_⟩⟩
        ⟨by rw [h3]; exact Nat.le_refl _, fun i hi hs => h7 i fun e => hs ⟨_, rfl, e.symm⟩⟩ (fun i hi => .inl hi)⟩
      · simp [Builtin.append_, run_underlying hu, hsizeOf, Builtin.lenOf, hread, hfit, Addr.add_row, h1]
      · rw [h6, hrest, Nat.add_zero, ← hxl, putL_prefix _ _ _ (by rw [hysl, hrl]; omega), List.flatMap_append]
  · obtain ⟨inf, i1, i2, i3, i4⟩ := hti w
    have hcap := nextslicecap_le (n + m) c (by omega)
    have hle : Builtin.nextslicecap (n + m) c * bytes ≤ 2 ^ 48 := Nat.le_trans (Nat.mul_le_mul_right _ hcap) hroom
    have hold : ∀ w' : World, w'.heap = w.heap → (Builtin.firstCells E.sz n (.slice a n c)).run P w' = .ok (xs.flatMap E.enc).toArray w' := by
      intro w' hw'
      have hxl : (xs.flatMap E.enc).length = n * E.sz := by rw [flat_len, hl]
      rcases hr with ⟨rfl, rfl⟩ | ⟨bb, cells, rfl, hBb, hbb, hcs, rest, hrest⟩
      · have hn : n = 0 := by omega
        subst hn
        have hxs : xs = [] := List.eq_nil_of_length_eq_zero hl
        subst hxs
        simp [Builtin.firstCells]
      · simp only [Builtin.firstCells]
        refine run_loadCells hxl fun j v hv => ?_
        have hlt := (List.getElem?_eq_some_iff.1 hv).1
        rw [Addr.add_row, hw']
        unfold cell
        simp only [hbb, Option.isSome_none, Bool.false_eq_true, if_false, Nat.zero_add]
        rw [← Array.getElem?_toList, hrest, List.getElem?_append_left hlt]; exact hv
    have hread' : ∀ w' : World, w'.heap = w.heap → (Builtin.firstCells E.sz m (.slice b m c2)).run P w' = .ok (ys.flatMap E.enc).toArray w' := by
      intro w' hw'
      rcases hs.2 with rfl | ⟨p, rfl, hp⟩
      · have hm : m = 0 := by have := hs.1; simpa using this.symm
        subst hm
        cases b <;> simp [Builtin.firstCells, loadCells, loadCellsFrom]
      · simp only [Builtin.firstCells]
        refine run_loadCells hysl fun j v hv => ?_
        rw [hw']
        have hj : j < m * E.sz := by rw [← hysl]; exact (List.getElem?_eq_some_iff.1 hv).1
        have hi : j / E.sz < ys.length := by rw [hs.1]; exact Nat.div_lt_of_lt_mul (by rw [Nat.mul_comm]; exact hj)
        have hr : j % E.sz < E.sz := Nat.mod_lt _ hpos
        have hx : ys[j / E.sz]? = some ys[j / E.sz] := List.getElem?_eq_getElem hi
        have hlen := E.len ys[j / E.sz]
        have hvj : (E.enc ys[j / E.sz])[j % E.sz]? = some ((E.enc ys[j / E.sz])[j % E.sz]'(by omega)) := List.getElem?_eq_getElem (by omega)
        have hf := flat_get ys hx hvj
        rw [Nat.mul_comm, Nat.div_add_mod] at hf
        rw [hv] at hf
        have := hp _ _ hx _ _ hvj
        rw [Nat.mul_comm, Nat.div_add_mod] at this
        rw [this, ← hf]
    let q : Question := .appendCap (n + m) c e
    let cap := q.cut (w.tape w.drawn q)
    let wd : World := { w with drawn := w.drawn + 1 }
    have hch : (choose q).run P w = .ok cap wd := rfl
    have hcge : n + m ≤ cap := by show n + m ≤ (n + m) + _; omega
    have hz0 : Builtin.zeroCells z.cells (cap - (n + m)) = (Builtin.zeroCells z.cells (cap - (n + m))) := rfl
    have hzlen : (Builtin.zeroCells z.cells (cap - (n + m))).size = (cap - (n + m)) * E.sz := by simp [Builtin.zeroCells, hzl]
    refine ⟨.slice (some ⟨w.heap.size, 0, none⟩) (n + m) cap, { wd with heap := w.heap.push (.cells ((xs.flatMap E.enc).toArray ++ (ys.flatMap E.enc).toArray ++ Builtin.zeroCells z.cells (cap - (n + m))) e) }, ?_, Sane.push rfl, ?_⟩
    · have hbz : inf.bytes = bytes := i3
      have g1 : ∀ w' : World, (typeInfo e).run P w' = .ok inf w' := fun w' => by
        obtain ⟨i', j1, j2, _, _⟩ := hti w'
        rw [i1] at j1; cases j1; exact j2
      have hle' : ¬ (281474976710656 < Builtin.nextslicecap (n + m) c * inf.bytes) := by rw [hbz]; omega
      have hnb : inf.bytes ≠ 0 := by omega
      have hforced : (Question.appendCap (n + m) c e).forced = false := rfl
      have hold' := hold w.drew rfl
      have hread2 := hread' w.drew rfl
      simp [Builtin.append_, run_underlying hu, hsizeOf, Builtin.lenOf, hfit, g1, hle', hnb, hforced, hold', hread2, hzero, newRow]
      refine ⟨rfl, ?_⟩
      show ({ w with heap := _, drawn := _ } : World) = _
      congr 2
      simp only [cap, q, ← Array.append_assoc, List.append_toArray]
    · have hsz' : ((xs.flatMap E.enc).toArray ++ (ys.flatMap E.enc).toArray ++ Builtin.zeroCells z.cells (cap - (n + m))).size = cap * E.sz := by
        simp only [Array.size_append, hzlen, List.size_toArray, flat_len, hl, hs.1]
        rw [← Nat.add_mul, ← Nat.add_mul, Nat.add_sub_cancel' hcge]
      refine k _ _ _ ⟨by simp [hl, hs.1], hcge, .inr ⟨w.heap.size, _, rfl, hB, push_at _ _, hsz', (Builtin.zeroCells z.cells (cap - (n + m))).toList, ?_⟩⟩
        ((Keep.push w.heap.size w.heap _ (Nat.le_refl _)).upd _) (fun i ⟨p, e, hp⟩ => .inr (by cases e; exact hp.symm))
      simp [List.flatMap_append]

/- ------------------------------------------------------------------ a box of the call's own -/

theorem cell_push (h : Heap) (c : Array Value) (T : TypeId) (o : Nat) : cell (h.push (.cells c T (0, 0))) ⟨h.size, o, none⟩ = c[o]? := by
  unfold cell; simp
theorem cell_at {h : Heap} {b : Nat} {c : Array Value} {T : TypeId} {f : Nat × Nat} (hb : h[b]? = some (.cells c T f)) (o : Nat) : cell h ⟨b, o, none⟩ = c[o]? := by
  unfold cell; simp [hb]
def oneCells (vs : List Value) : Prop := ∀ v ∈ vs, (∀ c, v ≠ .agg c) ∧ (∀ c, v ≠ .tuple c)
theorem putL_all : ∀ (vs cs : List Value), cs.length = vs.length → putL cs 0 vs = vs := by
  intro vs cs h
  have := putL_prefix vs [] cs (by omega)
  simp at this
  rw [this]; simp; omega
/-- a whole variable of the call's own is written. -/
theorem svc_store_own {P : Program} {t T b : Nat} {h : Heap} {old : Array Value} {v : Value} {K : Unit → Heap → Prop} (hsz : szOf P t = some v.cells.size) (hb : h[b]? = some (.cells old T (0, 0)))
    (hlen : old.size = v.cells.size) (hone : oneCells v.cells.toList)
    (k : ∀ h', h'.size = h.size → h'[b]? = some (.cells v.cells T (0, 0)) → (∀ i, i ≠ b → h'[i]? = h[i]?) → K () h') : SVC P (Instr.storeAt t (.pointer (some ⟨b, 0, none⟩)) v) h K := by
  refine ⟨fun w hw => ?_⟩
  subst hw
  obtain ⟨w', cells', h1, h2, h3, h4, h5, h6, h7⟩ := run_storeCells (P := P) b T v.cells.toList 0 old w 0 hb (by simp [hlen]) hone
  refine ⟨(), w', ?_, h2, k _ h3 ?_ h7⟩
  · simp only [Instr.storeAt, Instr.sureAddr, Sem.run_bind, Sem.run_pure, Result.andThen_ok, storeVar, run_szOf hsz, ne_eq, not_true, if_false]
    exact h1
  · rw [h4]
    have : cells'.toList = v.cells.toList := by
      rw [h6, Nat.add_zero, putL_all]; simp [hlen]
    rw [Array.toList_inj.1 this]
theorem svc_store_new {P : Program} {t T : TypeId} {h : Heap} {old : Array Value} {v : Value} {K : Unit → Heap → Prop} (hsz : szOf P t = some v.cells.size) (hlen : old.size = v.cells.size)
    (hone : oneCells v.cells.toList) (k : K () (h.push (.cells v.cells T (0, 0)))) :
    SVC P (Instr.storeAt t (.pointer (some ⟨h.size, 0, none⟩)) v) (h.push (.cells old T (0, 0))) K := by
  refine svc_store_own hsz (push_at _ _) hlen hone fun h' e1 e2 e3 => ?_
  have : h' = h.push (.cells v.cells T (0, 0)) := by
    apply Array.ext_getElem?
    intro i
    by_cases hi : i = h.size
    · subst hi; rw [e2, push_at]
    · rw [e3 i hi, Array.getElem?_push, Array.getElem?_push, if_neg hi, if_neg hi]
  rw [this]; exact k
theorem wrap_i64 {n : Int} (h0 : -9223372036854775808 ≤ n) (h1 : n < 9223372036854775808) : IntKind.i64.wrap n = n := by
  unfold IntKind.wrap IntKind.signed IntKind.bits
  simp only [Bool.true_and]
  split
  · rename_i h; simp at h; omega
  · rename_i h; simp at h; omega
theorem one_string (s : ByteArray) : (∀ c, Value.string s ≠ .agg c) ∧ (∀ c, Value.string s ≠ .tuple c) := ⟨fun _ h => (by cases h), fun _ h => (by cases h)⟩
theorem one_int (k : IntKind) (s : Int) : (∀ c, Value.int k s ≠ .agg c) ∧ (∀ c, Value.int k s ≠ .tuple c) := ⟨fun _ h => (by cases h), fun _ h => (by cases h)⟩
theorem one_slice (a : Option Addr) (n c : Nat) : (∀ x, Value.slice a n c ≠ .agg x) ∧ (∀ x, Value.slice a n c ≠ .tuple x) := ⟨fun _ h => (by cases h), fun _ h => (by cases h)⟩
theorem one_map (a : Option Nat) : (∀ x, Value.map a ≠ .agg x) ∧ (∀ x, Value.map a ≠ .tuple x) := ⟨fun _ h => (by cases h), fun _ h => (by cases h)⟩
/- ------------------------------------------------------------------ '==' of structs of strings, bools and numbers -/

def eqSc : Option TypeDesc → Value → Value → Option Bool
  | some .string, .string a, .string b => some (a.toList == b.toList)
  | some .bool, .bool a, .bool b => some (a == b)
  | some (.int _), .int k a, .int k' b => match eqKind k k' with | true => some (a == b) | false => none
  | _, _, _ => none
def eqFl (P : Program) (xs ys : List Value) : List Field → Option Bool
  | [] => some true
  | f :: fs => match f.name == "_", aggT P f.type, xs[f.offset]?, ys[f.offset]? with
    | false, false, some a, some b => match eqSc (P.underlying f.type) a b, eqFl P xs ys fs with
      | some r, some s => some (r && s)
      | _, _ => none
    | _, _, _, _ => none
theorem run_eqSc {P : Program} {t : TypeId} {a b : Value} {r : Bool} (h : eqSc (P.underlying t) a b = some r) (d : Nat) (w : World) : (Op.equalIn (d + 1) t a b).run P w = .ok r w := by
  cases hu : P.underlying t with
  | none => rw [hu] at h; simp [eqSc] at h
  | some u =>
    rw [hu] at h
    cases u <;> cases a <;> cases b <;> simp only [eqSc, Option.some.injEq, reduceCtorEq] at h
    · subst h; exact run_equalIn_bool w d t _ _ hu
    · rename_i k _ _ k' _
      cases hk : eqKind _ _ with
      | false => rw [hk] at h; cases h
      | true =>
        rw [hk] at h
        obtain rfl := eqKind_eq hk
        cases h
        exact run_equalIn_int w d t _ _ _ _ hu
    · subst h; exact run_equalIn_string w d t _ _ hu
theorem run_eqFl {P : Program} {xs ys : Array Value} (d : Nat) (w : World) : ∀ {fs : List Field} {r : Bool}, eqFl P xs.toList ys.toList fs = some r → (Op.eqFields (d + 1) xs ys fs).run P w = .ok r w
  | [], r, h => by simp [eqFl] at h; subst h; rfl
  | f :: fs, r, h => by
    simp only [eqFl] at h
    cases hn : f.name == "_" with
    | true => simp [hn] at h
    | false =>
      cases ha : aggT P f.type with
      | true => simp [hn, ha] at h
      | false =>
        cases hx : xs.toList[f.offset]? with
        | none => simp [hn, ha, hx] at h
        | some a =>
          cases hy : ys.toList[f.offset]? with
          | none => simp [hn, ha, hx, hy] at h
          | some b =>
            simp only [hn, ha, hx, hy] at h
            cases he : eqSc (P.underlying f.type) a b with
            | none => simp [he] at h
            | some r1 =>
              cases hf : eqFl P xs.toList ys.toList fs with
              | none => simp [he, hf] at h
              | some r2 =>
                simp only [he, hf, Option.some.injEq] at h
                subst h
                have hund : P.underlying f.type ≠ none := fun e => by rw [e] at he; simp [eqSc] at he
                have hag : (isAgg f.type).run P w = .ok false w := by
                  unfold aggT at ha
                  cases hu : P.underlying f.type with
                  | none => exact absurd hu hund
                  | some u => rw [hu] at ha; cases u <;> simp_all [isAgg, run_underlying hu]
                rw [Array.getElem?_toList] at hx hy
                have p1 : (part f.type xs f.offset).run P w = .ok a w := by simp [part, hag, hx]
                have p2 : (part f.type ys f.offset).run P w = .ok b w := by simp [part, hag, hy]
                have hn' : f.name ≠ "_" := by simpa using hn
                simp only [Op.eqFields, if_pos hn', Sem.run_bind, p1, p2, Result.andThen_ok, run_eqSc he d w]
                cases r1
                · simp
                · simpa using run_eqFl d w hf
structure Flat (P : Program) (t : TypeId) (gs : Array Field) : Prop where
  und : P.underlying t = some (.struct gs)
  held : P.stoodInHeld t = false
  guard : P.eqGuardType P.depth t = false
theorem Upd.at {S : Nat → Prop} {h h' : Heap} {b : Nat} {o : Obj} (u : Upd S h h') (hb : h[b]? = some o) (hs : ¬ S b) : h'[b]? = some o := by
  have hlt : b < h.size := by
    by_cases hlt : b < h.size
    · exact hlt
    · rw [Array.getElem?_eq_none (by omega)] at hb; cases hb
  rw [u.block b hlt hs]; exact hb
theorem Keep.at {B : Nat} {h h' : Heap} {b : Nat} {o : Obj} (u : Keep B h h') (hb : h[b]? = some o) (hs : b < B) : h'[b]? = some o := by
  rw [u.block b hs]; exact hb
theorem at_lt {h : Heap} {b : Nat} {o : Obj} (hb : h[b]? = some o) : b < h.size := by
  by_cases hlt : b < h.size
  · exact hlt
  · rw [Array.getElem?_eq_none (by omega)] at hb; cases hb
theorem Upd.push {S : Nat → Prop} {h h1 : Heap} (u : Upd S h h1) (o : Obj) : Upd S h (h1.push o) :=
  u.trans ((Keep.push h1.size h1 o (Nat.le_refl _)).upd S)

/-- one element appended to a slice of the call's own. -/
theorem svc_append1 {α : Type} {E : Enc α} {P : Program} {T e : TypeId} {bytes : Nat} {z : Value} {B : Nat} {h : Heap} {a : Option Addr} {n c : Nat} {xs : List α} {x : α} {v : Value} {ty : TypeId}
    {K : Option Addr → Nat → Nat → Heap → Prop} (hA : App P T e E.sz bytes z) (ho : Vc.Own E e B h a n c xs) (hB : B ≤ h.size) (hb : bsCells P T 1 [(0, v)] = some (e, E.enc x))
    (hroom : (4 * (n + 1) + 192) * bytes ≤ 2 ^ 48)
    (k : ∀ a' c' h', Vc.Own E e B h' a' (n + 1) c' (xs ++ [x]) → Upd (blk a) h h' → (∀ i, blk a' i → blk a i ∨ h.size ≤ i) → K a' (n + 1) c' h') :
    SVC P (Instr.buildSlice T 1 (Array.mk [(0, v)])) h fun v18 h19 => ∃ (a20 : Option Addr), ∃ (k21 : Nat), ∃ (k22 : Nat), v18 = Value.slice a20 k21 k22 ∧
      SVC P (Builtin.append_ (Array.mk [T, T]) ty (Array.mk [Value.slice a n c, Value.slice a20 k21 k22])) h19 fun v23 h24 => ∃ (a25 : Option Addr), ∃ (k26 : Nat), ∃ (k27 : Nat), v23 = Value.slice a25 k26 k27 ∧ K a25 k26 k27 h24 := by
  refine svc_buildSlice hb ⟨_, _, _, rfl, ?_⟩
  have u0 : Upd (blk a) h (h.push (.cells (E.enc x).toArray e (0, 0))) := (Upd.refl _ h).push _
  have own1 : Vc.Own E e B (h.push (.cells (E.enc x).toArray e (0, 0))) a n c xs := by
    obtain ⟨h1, h2, h3⟩ := ho
    refine ⟨h1, h2, h3.imp id ?_⟩
    rintro ⟨b, cells, r1, r2, r3, r4⟩
    exact ⟨b, cells, r1, r2, by rw [push_old _ _ (at_lt r3)]; exact r3, r4⟩
  refine svc_append (ys := [x]) (ty := ty) hA own1 (by simp; omega) ⟨rfl, .inr ⟨_, rfl, fun i y hy j u hu => ?_⟩⟩ hroom fun a' c' h' o' u' b' => ⟨_, _, _, rfl, k a' c' h' o' (u0.trans u') fun i hi => ?_⟩
  · cases i with
    | zero =>
      simp at hy; subst hy
      rw [Addr.add_row, cell_push, Nat.zero_mul]
      simpa using hu
    | succ i => simp at hy
  · rcases b' i hi with h1 | h1
    · exact .inl h1
    · right; rw [h1]; simp

/-- one cell of a row of the call's own is written. -/
theorem svc_store_cell {P : Program} {t T b o : Nat} {h : Heap} {old : Array Value} {v : Value} {K : Unit → Heap → Prop} (hsz : szOf P t = some 1) (hb : h[b]? = some (.cells old T (0, 0)))
    (ho : o < old.size) (hc : v.cells = #[v]) (hone : (∀ c, v ≠ .agg c) ∧ (∀ c, v ≠ .tuple c))
    (k : ∀ h', h'.size = h.size → h'[b]? = some (.cells (old.toList.set o v).toArray T (0, 0)) → (∀ i, i ≠ b → h'[i]? = h[i]?) → K () h') : SVC P (Instr.storeAt t (.pointer (some ⟨b, o, none⟩)) v) h K := by
  refine ⟨fun w hw => ?_⟩
  subst hw
  obtain ⟨w', cells', h1, h2, h3, h4, h5, h6, h7⟩ := run_storeCells (P := P) b T [v] o old w 0 hb (by simp; omega) (fun u hu => by simp at hu; subst hu; exact hone)
  refine ⟨(), w', ?_, h2, k _ h3 ?_ h7⟩
  · simp only [Instr.storeAt, Instr.sureAddr, Sem.run_bind, Sem.run_pure, Result.andThen_ok, storeVar, hc, run_szOf hsz, List.size_toArray, List.length_singleton, ne_eq, not_true, if_false]
    exact h1
  · rw [h4]
    have : cells'.toList = old.toList.set o v := by rw [h6]; rfl
    rw [← this]
theorem upd_of_one {h h' : Heap} {b : Nat} (hs : h'.size = h.size) (ho : ∀ i, i ≠ b → h'[i]? = h[i]?) : Upd (fun i => i = b) h h' := ⟨by omega, fun i _ hi => ho i hi⟩
theorem Own.mono {α : Type} {E : Enc α} {T : TypeId} {B C : Nat} {h : Heap} {a : Option Addr} {n c : Nat} {xs : List α} (ho : Vc.Own E T B h a n c xs) (hC : C ≤ B) : Vc.Own E T C h a n c xs :=
  ⟨ho.1, ho.2.1, ho.2.2.imp id fun ⟨b, cells, r1, r2, r3⟩ => ⟨b, cells, r1, by omega, r3⟩⟩
end Go.Vc
end

section
set_option linter.unusedSimpArgs false
set_option linter.unusedVariables false
namespace Go.Vc
open Go

section
variable {κ ν : Type} [DecidableEq κ]

/-- the place of a key in a list of entries. -/
def mIdx (m : List (κ × ν)) (k : κ) : Option Nat := m.findIdx? fun p => decide (p.1 = k)
def mGet (m : List (κ × ν)) (k : κ) : Option ν := match m with
  | [] => none
  | p :: m => if p.1 = k then some p.2 else mGet m k
def mPut (m : List (κ × ν)) (k : κ) (v : ν) : List (κ × ν) := match m with
  | [] => [(k, v)]
  | p :: m => if p.1 = k then (k, v) :: m else p :: mPut m k v
def mKeys (m : List (κ × ν)) : List κ := m.map (·.1)

theorem mGet_put (m : List (κ × ν)) (k : κ) (v : ν) (q : κ) : mGet (mPut m k v) q = if k = q then some v else mGet m q := by
  induction m with
  | nil => simp [mPut, mGet]
  | cons p m ih =>
    by_cases h : p.1 = k
    · subst h
      by_cases hq : p.1 = q <;> simp [mPut, mGet, hq]
    · by_cases hq : p.1 = q
      · subst hq; simp [mPut, mGet, h, Ne.symm h]
      · simp [mPut, mGet, h, hq, ih]
/-- how keys and values stand as values, and that '==' on keys is their equality. -/
structure Mk (P : Program) (T kt et : TypeId) (κ ν : Type) [DecidableEq κ] where
  ek : κ → Value
  ev : ν → Value
  und : P.underlying T = some (.map kt et)
  find : ∀ (k : κ) (es : List MapEntry) (m : List (κ × ν)) (w : World), es.map (fun e => (e.key, e.val)) = m.map (fun p => (ek p.1, ev p.2)) →
    (Instr.findKey kt (ek k) es).run P w = .ok ((mIdx m k).bind fun i => (m[i]?).map fun p => (i, ev p.2)) w
  check : ∀ (k : κ) (b : Bool) (w : World), (Instr.checkKey b 10000 kt (ek k)).run P w = .ok () w
  bits : ∀ k, Instr.sameBits 10000 (ek k) (ek k) = true

variable {P : Program} {T kt et : TypeId}

/-- a map's block reads as a list of entries. -/
def MapAt (M : Mk P T kt et κ ν) (h : Heap) (r : Nat) (m : List (κ × ν)) : Prop :=
  ∃ es clock, h[r]? = some (.map es clock) ∧ es.toList.map (fun e => (e.key, e.val)) = m.map (fun p => (M.ek p.1, M.ev p.2)) ∧ (mKeys m).Nodup ∧
    (∀ e ∈ es.toList, e.born < clock) ∧ (es.toList.map (·.born)).Nodup

theorem MapAt.lt {M : Mk P T kt et κ ν} {h : Heap} {r : Nat} {m : List (κ × ν)} (hm : MapAt M h r m) : r < h.size := by
  obtain ⟨es, clock, hb, _⟩ := hm; exact at_lt hb
theorem MapAt.upd {M : Mk P T kt et κ ν} {h h' : Heap} {r : Nat} {m : List (κ × ν)} {S : Nat → Prop} (hm : MapAt M h r m) (u : Upd S h h') (hs : ¬ S r) : MapAt M h' r m := by
  obtain ⟨es, clock, hb, rest⟩ := hm; exact ⟨es, clock, u.at hb hs, rest⟩
theorem MapAt.keep {M : Mk P T kt et κ ν} {h h' : Heap} {r : Nat} {m : List (κ × ν)} (hm : MapAt M h r m) (u : Keep h.size h h') : MapAt M h' r m := by
  obtain ⟨es, clock, hb, rest⟩ := hm; exact ⟨es, clock, u.at hb (at_lt hb), rest⟩
theorem MapAt.new (M : Mk P T kt et κ ν) (h : Heap) : MapAt M (h.push (.map #[] 0)) h.size [] := ⟨#[], 0, push_at _ _, rfl, List.nodup_nil, by simp, by simp⟩

theorem run_setObj {w : World} {r : Nat} {es : Array MapEntry} {c : Nat} {o : Obj} (hb : w.heap[r]? = some (.map es c)) : (setObj r o).run P w = .ok () { w with heap := w.heap.setIfInBounds r o } := by
  simp [setObj, Sem.run, hb]
theorem setObj_upd (h : Heap) (r : Nat) (o : Obj) : Upd (fun i => i = r) h (h.setIfInBounds r o) := ⟨by simp, fun i _ hi => by rw [Array.getElem?_setIfInBounds_ne (Ne.symm hi)]⟩
theorem setObj_at {h : Heap} {r : Nat} {o : Obj} (hr : r < h.size) : (h.setIfInBounds r o)[r]? = some o := by simp [hr]

theorem map_erase {α β : Type} (f : α → β) : ∀ (l : List α) (i : Nat), (l.eraseIdx i).map f = (l.map f).eraseIdx i
  | [], _ => rfl
  | _ :: _, 0 => rfl
  | a :: l, i + 1 => by simp [List.eraseIdx, map_erase f l i]
/- ------------------------------------------------------------------ keys of strings, and of whole numbers -/

theorem findNow_eq {κ ν : Type} [DecidableEq κ] {d : TypeDesc} {ek : κ → Value} {ev : ν → Value} (hs : ∀ a b, Instr.sameNow d (ek a) (ek b) = some (decide (b = a))) (k : κ) :
    ∀ (es : List MapEntry) (m : List (κ × ν)) (i : Nat), es.map (fun e => (e.key, e.val)) = m.map (fun p => (ek p.1, ev p.2)) →
    Instr.findNow d (ek k) es i = some ((mIdx m k).bind fun j => (m[j]?).map fun p => (i + j, ev p.2))
  | [], [], i, _ => rfl
  | [], _ :: _, i, h => by simp at h
  | _ :: _, [], i, h => by simp at h
  | e :: es, p :: m, i, h => by
    simp only [List.map_cons, List.cons.injEq, Prod.mk.injEq] at h
    obtain ⟨⟨h1, h2⟩, h3⟩ := h
    unfold Instr.findNow
    rw [h1, hs]
    by_cases hk : p.1 = k
    · simp [mIdx, List.findIdx?_cons, hk, h2]
    · simp only [hk, decide_false]
      rw [findNow_eq hs k es m (i + 1) h3]
      simp only [mIdx, List.findIdx?_cons, hk, decide_false, Bool.false_eq_true, if_false]
      cases m.findIdx? fun p => decide (p.1 = k) with
      | none => rfl
      | some j => simp [Nat.add_assoc, Nat.add_comm 1]

theorem beq_dec (a b : ByteArray) : (a == b) = decide (b = a) := by
  rw [beq_toListBytes]
  cases h : a.toList == b.toList with
  | true =>
    have : a = b := by
      have := by simpa using h
      rw [ByteArray.toList_eq, ByteArray.toList_eq] at this
      cases a; cases b; congr 1; exact Array.toList_inj.1 this
    simp [this]
  | false =>
    have : b ≠ a := fun e => by subst e; simp at h
    simp [this]

theorem bits_string (n : Nat) (k : ByteArray) : Instr.sameBits n (.string k) (.string k) = true := by
  have : (k == k) = true := by rw [beq_dec]; simp
  cases n <;> simp only [Instr.sameBits] <;> exact this
theorem bits_int (n : Nat) (ik : IntKind) (k : Int) : Instr.sameBits n (.int ik k) (.int ik k) = true := by cases n <;> simp [Instr.sameBits]
theorem check_string {kt : TypeId} (hk : P.underlying kt = some .string) (n : Nat) (b : Bool) (k : ByteArray) (w : World) : (Instr.checkKey b (n + 1) kt (.string k)).run P w = .ok () w := by
  unfold Instr.checkKey; simp only [Sem.run_bind, run_underlying hk, Result.andThen_ok]; rfl
theorem check_int {kt : TypeId} {ik : IntKind} (hk : P.underlying kt = some (.int ik)) (n : Nat) (b : Bool) (k : Int) (w : World) : (Instr.checkKey b (n + 1) kt (.int ik k)).run P w = .ok () w := by
  unfold Instr.checkKey; simp only [Sem.run_bind, run_underlying hk, Result.andThen_ok]; rfl
/-- a map keyed by strings. -/
def strMk (P : Program) (T kt et : TypeId) (ν : Type) (ev : ν → Value) (hT : P.underlying T = some (.map kt et)) (hk : P.underlying kt = some .string) : Mk P T kt et ByteArray ν where
  ek := .string
  ev := ev
  und := hT
  find := fun k es m w he => by
    have := findNow_eq (d := .string) (ek := Value.string) (ev := ev) (fun a b => by simp only [Instr.sameNow]; rw [beq_dec]) k es m 0 he
    simp [Instr.findKey, run_underlying hk, this]
  check := fun k b w => check_string hk 9999 b k w
  bits := fun k => bits_string _ k
end
end Go.Vc
end

section
set_option linter.unusedSimpArgs false
set_option linter.unusedVariables false
namespace Go.Vc
open Go
open Go.ChangeMaps (setBlock)

section
variable {κ ν : Type} [DecidableEq κ] {P : Program} {T kt et : TypeId}

/-- a loop over a map: what is left, and which entry was handed out last. -/
def IterAt (M : Mk P T kt et κ ν) (h : Heap) (i r : Nat) (m left : List (κ × ν)) (cur : Option (κ × ν)) : Prop :=
  ∃ es clock since seen last, h[r]? = some (.map es clock) ∧ es.toList.map (fun e => (e.key, e.val)) = m.map (fun p => (M.ek p.1, M.ev p.2)) ∧ (mKeys m).Nodup ∧
    (∀ e ∈ es.toList, e.born < clock) ∧ (es.toList.map (·.born)).Nodup ∧ h[i]? = some (.mapIter (some r) since seen last) ∧ (∀ e ∈ es.toList, e.born < since) ∧ since ≤ last ∧ since ≤ clock ∧
    (leftOf es seen).toList.map (fun e => (e.key, e.val)) = left.map (fun p => (M.ek p.1, M.ev p.2)) ∧
    (∀ p, cur = some p → ∃ e ∈ es.toList, ∃ s : Array Nat, seen = s.push e.born ∧ last = clock ∧ e.key = M.ek p.1 ∧ e.val = M.ev p.2)

theorem IterAt.map {M : Mk P T kt et κ ν} {h : Heap} {i r : Nat} {m left : List (κ × ν)} {cur : Option (κ × ν)} (hi : IterAt M h i r m left cur) : MapAt M h r m := by
  obtain ⟨es, clock, since, seen, last, a1, a2, a3, a4, a5, _⟩ := hi
  exact ⟨es, clock, a1, a2, a3, a4, a5⟩
theorem IterAt.ne {M : Mk P T kt et κ ν} {h : Heap} {i r : Nat} {m left : List (κ × ν)} {cur : Option (κ × ν)} (hi : IterAt M h i r m left cur) : i ≠ r := by
  obtain ⟨es, clock, since, seen, last, a1, _, _, _, _, a2, _⟩ := hi
  intro e; subst e; rw [a1] at a2; cases a2
theorem IterAt.lt {M : Mk P T kt et κ ν} {h : Heap} {i r : Nat} {m left : List (κ × ν)} {cur : Option (κ × ν)} (hi : IterAt M h i r m left cur) : i < h.size := by
  obtain ⟨es, clock, since, seen, last, a1, _, _, _, _, a2, _⟩ := hi
  exact at_lt a2
theorem IterAt.upd {M : Mk P T kt et κ ν} {h h' : Heap} {i r : Nat} {m left : List (κ × ν)} {cur : Option (κ × ν)} {S : Nat → Prop} (hi : IterAt M h i r m left cur) (u : Upd S h h') (hs : ¬ S i) (hr : ¬ S r) : IterAt M h' i r m left cur := by
  obtain ⟨es, clock, since, seen, last, a1, b1, b2, b3, b4, a2, rest⟩ := hi
  exact ⟨es, clock, since, seen, last, u.at a1 hr, b1, b2, b3, b4, u.at a2 hs, rest⟩

theorem svc_range {M : Mk P T kt et κ ν} {h : Heap} {r : Nat} {m : List (κ × ν)} {K : Value → Heap → Prop} (hm : MapAt M h r m)
    (k : ∀ h', Keep h.size h h' → h'.size = h.size + 1 → IterAt M h' h.size r m m none → K (.pointer (some ⟨h.size, 0, none⟩)) h') : SVC P (Instr.range T (.map (some r))) h K := by
  obtain ⟨es, clock, hb, he, hn, hc, hbn⟩ := hm
  refine ⟨fun w hw => ?_⟩
  subst hw
  refine ⟨.pointer (some ⟨w.heap.size, 0, none⟩), w.alloc (.mapIter (some r) clock #[] clock), ?_, Sane.push rfl, k _ (Keep.push _ _ _ (Nat.le_refl _)) (by show (w.heap.push _).size = _; simp) ⟨es, clock, clock, #[], clock, ?_, he, hn, hc, hbn, ?_, hc, Nat.le_refl _, Nat.le_refl _, ?_, fun p hp => by cases hp⟩⟩
  · have hget : (getObj r).run P w = .ok (.map es clock) w := by simp [getObj, Sem.run, hb]
    simp only [Instr.range, Sem.run_bind, run_underlying M.und, Result.andThen_ok, hget, Sem.run_pure, run_newObj]
    rfl
  · exact push_old _ _ (at_lt hb) |>.trans hb
  · exact push_at _ _
  · rw [leftOf, Array.toList_filter, List.filter_eq_self.2 (by simp)]; exact he

theorem filter_born {l : List MapEntry} {seen : Array Nat} {e : MapEntry} (hn : (l.map (·.born)).Nodup) (he : e ∈ l.filter fun e => !seen.contains e.born) :
    ∃ j, (l.filter fun e => !seen.contains e.born)[j]? = some e ∧ l.filter (fun x => !(seen.push e.born).contains x.born) = (l.filter fun e => !seen.contains e.born).eraseIdx j := by
  have hf : l.filter (fun x => !(seen.push e.born).contains x.born) = (l.filter fun e => !seen.contains e.born).filter fun x => decide (x.born ≠ e.born) := by
    rw [List.filter_filter]
    apply List.filter_congr
    intro x _
    simp only [Array.contains_push]
    by_cases hx : x.born = e.born <;> simp [hx]
  have hnd : ((l.filter fun e => !seen.contains e.born).map (·.born)).Nodup := hn.sublist (List.filter_sublist.map _)
  rw [hf]
  generalize (l.filter fun e => !seen.contains e.born) = L at he hnd
  clear hf hn
  induction L with
  | nil => cases he
  | cons y L ih =>
    simp only [List.map_cons, List.nodup_cons] at hnd
    rcases List.mem_cons.1 he with rfl | he
    · refine ⟨0, rfl, ?_⟩
      simp only [List.eraseIdx_cons_zero, ne_eq, List.filter_cons, not_true_eq_false, decide_false, Bool.false_eq_true, if_false]
      exact List.filter_eq_self.2 fun x hx => by
        simp only [decide_eq_true_eq]
        exact fun hb => hnd.1 (hb ▸ List.mem_map_of_mem hx)
    · obtain ⟨j, h1, h2⟩ := ih he hnd.2
      refine ⟨j + 1, by simpa using h1, ?_⟩
      have : y.born ≠ e.born := fun hb => hnd.1 (hb ▸ List.mem_map_of_mem he)
      simp only [List.filter_cons, this, ne_eq, not_false_eq_true, decide_true, if_true, List.eraseIdx_cons_succ]
      rw [← h2]

theorem svc_next {M : Mk P T kt et κ ν} {h : Heap} {i r : Nat} {m left : List (κ × ν)} {cur : Option (κ × ν)} {ty : TypeId} {K : Value → Heap → Prop} (hi : IterAt M h i r m left cur)
    (k0 : left = [] → K (.tuple #[.bool false]) h)
    (k1 : ∀ j p h', left[j]? = some p → Upd (fun b => b = i) h h' → h'.size = h.size → IterAt M h' i r m (left.eraseIdx j) (some p) → K (.tuple #[.bool true, M.ek p.1, M.ev p.2]) h') :
    SVC P (Instr.next (.pointer (some ⟨i, 0, none⟩)) false ty) h K := by
  have hne := hi.ne
  obtain ⟨es, clock, since, seen, last, hb, he, hn, hc, hbn, hit, hs, hsl, hsc, hleft, hcur⟩ := hi
  refine ⟨fun w hw => ?_⟩
  subst hw
  rcases run_next_at (P := P) w ty i r since last seen es clock hit hb hs hsl with ⟨h0, hr⟩ | ⟨e, hel, w1, hw1, hr⟩
  · refine ⟨_, w, hr, Sane.refl w, k0 ?_⟩
    have : (leftOf es seen).toList = [] := by rw [← Array.length_toList] at h0; exact List.eq_nil_of_length_eq_zero h0
    rw [this] at hleft
    simpa using hleft.symm
  · have hh : w1.heap = w.heap := by rcases hw1 with rfl | rfl <;> rfl
    have hh2 : (setBlock w1 i (.mapIter (some r) since (seen.push e.born) clock)).heap = w.heap.setIfInBounds i (.mapIter (some r) since (seen.push e.born) clock) := by
      show w1.heap.setIfInBounds _ _ = _; rw [hh]
    have hle : e ∈ es.toList.filter fun e => !seen.contains e.born := by
      have : (leftOf es seen).toList = es.toList.filter fun e => !seen.contains e.born := by simp [leftOf]
      rw [← this]; exact hel
    obtain ⟨j, hj, hfj⟩ := filter_born hbn hle
    have hlt : (leftOf es seen).toList = es.toList.filter fun e => !seen.contains e.born := by simp [leftOf]
    rw [hlt] at hleft
    have hjm := congrArg (fun l => l[j]?) hleft
    simp only [List.getElem?_map, hj, Option.map_some] at hjm
    cases hp : left[j]? with
    | none => rw [hp] at hjm; cases hjm
    | some p =>
      rw [hp] at hjm
      simp only [Option.map_some, Option.some.injEq, Prod.mk.injEq] at hjm
      rw [hjm.1, hjm.2] at hr
      have hem : e ∈ es.toList := (List.mem_filter.1 hle).1
      have upd : Upd (fun b => b = i) w.heap (w.heap.setIfInBounds i (.mapIter (some r) since (seen.push e.born) clock)) := setObj_upd _ _ _
      refine ⟨_, _, hr, ?_, ?_⟩
      · rcases hw1 with rfl | rfl <;> exact Sane.set hit rfl hh2
      · rw [hh2]
        refine k1 j p _ hp upd (by simp) ⟨es, clock, since, seen.push e.born, clock, upd.at hb (fun e => hne e.symm), he, hn, hc, hbn, setObj_at (at_lt hit), hs, hsc, hsc, ?_, ?_⟩
        · have : (leftOf es (seen.push e.born)).toList = es.toList.filter fun x => !(seen.push e.born).contains x.born := by simp only [leftOf, Array.toList_filter]
          rw [this, hfj, map_erase, hleft, map_erase]
        · intro q hq
          cases hq
          exact ⟨e, hem, seen, rfl, rfl, hjm.1, hjm.2⟩

theorem reads_entry {M : Mk P T kt et κ ν} {h : Heap} {i r : Nat} {m left : List (κ × ν)} {p : κ × ν} (hi : IterAt M h i r m left (some p)) :
    Reads P (Instr.entry (.pointer (some ⟨i, 0, none⟩))) h (.tuple #[M.ek p.1, M.ev p.2]) := by
  obtain ⟨es, clock, since, seen, last, hb, he, hn, hc, hbn, hit, hs, hsl, hsc, hleft, hcur⟩ := hi
  obtain ⟨e, hem, s, rfl, rfl, hk, hv⟩ := hcur p rfl
  refine ⟨fun w hw => ?_⟩
  subst hw
  rw [run_entry_at (P := P) w i r since s es _ e hit hb hem hbn, hk, hv]

end
end Go.Vc
end

section
set_option linter.unusedSimpArgs false
set_option linter.unusedVariables false
namespace Go.Vc
open Go

/- ------------------------------------------------------------------ bytes -/

def ByteE : Enc UInt8 := ⟨1, fun b => [.int .u8 b.toNat], fun _ => rfl, fun b v h => by simp at h; subst h; exact one_int _ _⟩
abbrev bytesL (s : ByteArray) : List UInt8 := s.data.toList

theorem Sl.byte {h : Heap} {a : Option Addr} {n : Nat} {xs : List UInt8} (hs : Sl ByteE h a n xs) {j : Nat} (hj : j < xs.length) : ∃ p, a = some p ∧ cell h (p.add j) = some (.int .u8 (xs[j].toNat : Int)) := by
  obtain ⟨p, e, hp⟩ := hs.get (List.getElem?_eq_getElem hj)
  refine ⟨p, e, ?_⟩
  have := hp 0 (.int .u8 (xs[j].toNat : Int)) rfl
  rw [show j * ByteE.sz + 0 = j by show j * 1 + 0 = j; omega] at this
  exact this

theorem reads_string {P : Program} {src dst e : TypeId} {h : Heap} {a : Option Addr} {n c : Nat} {xs : List UInt8} (hs : P.underlying src = some (.slice e)) (he : P.underlying e = some (.int .u8))
    (hd : P.underlying dst = some .string) (hsl : Sl ByteE h a n xs) : Reads P (convert src dst (.slice a n c)) h (.string ⟨xs.toArray⟩) := by
  refine ⟨fun w hw => ?_⟩
  subst hw
  have hl := hsl.1
  cases a with
  | none =>
    have : xs = [] := by rcases hsl.2 with e | ⟨p, e, _⟩; exact e; cases e
    subst this
    exact run_convert_bytes_nil (P := P) w src e hs he n c dst hd
  | some p =>
    subst hl
    refine run_convert_bytes_back (P := P) w src dst e p c xs hs he hd fun j hj => ?_
    obtain ⟨q, e, hq⟩ := hsl.byte hj
    cases e
    exact hq

theorem grown_ge (w : World) (n m : Nat) (e : TypeId) : n ≤ grownCap w n m e := by
  unfold grownCap Question.cut
  simp only
  omega

/- ------------------------------------------------------------------ keys that are a string with a number -/

section
variable {P : Program} {T kt et : TypeId}

theorem findAsking_eq {κ ν : Type} [DecidableEq κ] {ek : κ → Value} {ev : ν → Value} (hs : ∀ a b (w : World), (Op.equal kt (ek a) (ek b)).run P w = .ok (decide (b = a)) w) (k : κ) (w : World) :
    ∀ (es : List MapEntry) (m : List (κ × ν)) (i : Nat), es.map (fun e => (e.key, e.val)) = m.map (fun p => (ek p.1, ev p.2)) →
    (Instr.findAsking kt (ek k) es i).run P w = .ok ((mIdx m k).bind fun j => (m[j]?).map fun p => (i + j, ev p.2)) w
  | [], [], i, _ => rfl
  | [], _ :: _, i, h => by simp at h
  | _ :: _, [], i, h => by simp at h
  | e :: es, p :: m, i, h => by
    simp only [List.map_cons, List.cons.injEq, Prod.mk.injEq] at h
    obtain ⟨⟨h1, h2⟩, h3⟩ := h
    unfold Instr.findAsking
    rw [Sem.run_bind, h1, hs, Result.andThen_ok]
    by_cases hk : p.1 = k
    · simp [mIdx, List.findIdx?_cons, hk, h2]
    · simp only [hk, decide_false, Bool.false_eq_true, if_false]
      rw [findAsking_eq hs k w es m (i + 1) h3]
      simp only [mIdx, List.findIdx?_cons, hk, decide_false, Bool.false_eq_true, if_false]
      cases m.findIdx? fun p => decide (p.1 = k) with
      | none => rfl
      | some j => simp [Nat.add_assoc, Nat.add_comm 1]

theorem run_part_sc {t : TypeId} {cs : Array Value} {o : Nat} {v : Value} (ht : scT P t = true) (hv : cs[o]? = some v) (w : World) : (part t cs o).run P w = .ok v w := by
  simp [part, run_isAgg_sc ht, hv]

def keyV (k : ByteArray × Int) : Value := .agg #[.string k.1, .int .i64 k.2]

/-- a map keyed by a struct of a string and an int. -/
def pairMk (P : Program) (T kt et : TypeId) (ν : Type) (ev : ν → Value) (f0 f1 : Field) (hT : P.underlying T = some (.map kt et)) (hf : Flat P kt #[f0, f1]) (n0 : f0.name ≠ "_") (n1 : f1.name ≠ "_") (o0 : f0.offset = 0) (o1 : f1.offset = 1)
    (u0 : P.underlying f0.type = some .string) (u1 : P.underlying f1.type = some (.int .i64)) : Mk P T kt et (ByteArray × Int) ν where
  ek := keyV
  ev := ev
  und := hT
  find := fun k es m w he => by
    have heq : ∀ (a b : ByteArray × Int) (w : World), (Op.equal kt (keyV a) (keyV b)).run P w = .ok (decide (b = a)) w := fun a b w => by
      have hfo : P.fieldsOf kt = #[f0, f1] := by simp [Program.fieldsOf, hf.und]
      have a0 : aggT P f0.type = false := by simp [aggT, u0]
      have a1 : aggT P f1.type = false := by simp [aggT, u1]
      have e : eqFl P (#[Value.string a.1, .int .i64 a.2] : Array Value).toList (#[Value.string b.1, .int .i64 b.2] : Array Value).toList (#[f0, f1] : Array Field).toList = some (a.1.toList == b.1.toList && (a.2 == b.2 && true)) := by
        have b0 : (f0.name == "_") = false := by simp [n0]
        have b1 : (f1.name == "_") = false := by simp [n1]
        have e1 : eqSc (P.underlying f1.type) (.int .i64 a.2) (.int .i64 b.2) = some (a.2 == b.2) := by rw [u1]; rfl
        have e0 : eqSc (P.underlying f0.type) (.string a.1) (.string b.1) = some (a.1.toList == b.1.toList) := by rw [u0]; rfl
        simp only [eqFl, b0, b1, o0, o1, a0, a1, List.getElem?_cons_zero, List.getElem?_cons_succ, e0, e1]
      have : decide (b = a) = (a.1.toList == b.1.toList && (a.2 == b.2 && true)) := by
        rw [← beq_toListBytes, beq_dec, Bool.and_true]
        by_cases h1 : b.1 = a.1 <;> by_cases h2 : a.2 = b.2
        · simp [h1, h2, Prod.ext_iff]
        · simp [h1, h2, Prod.ext_iff, Ne.symm h2]
        · simp [h1, h2, Prod.ext_iff]
        · simp [h1, h2, Prod.ext_iff]
      rw [this]
      unfold Op.equal Op.maxDepth keyV
      rw [run_equalIn_struct (P := P) w 9999 kt _ _ (by rw [hfo]; exact hf.und) hf.held, hfo]
      exact run_eqFl 9998 w e
    have hu : (underlying kt).run P w = .ok (.struct #[f0, f1]) w := run_underlying hf.und w
    unfold Instr.findKey
    rw [Sem.run_bind, hu, Result.andThen_ok]
    cases es with
    | nil =>
      cases m with
      | nil => rfl
      | cons _ _ => simp at he
    | cons e es =>
      have hn : Instr.findNow (.struct #[f0, f1]) (keyV k) (e :: es) 0 = none := by simp [Instr.findNow, Instr.sameNow]
      rw [hn]
      have := findAsking_eq (P := P) (kt := kt) (ek := keyV) (ev := ev) heq k w (e :: es) m 0 he
      simpa using this
  check := fun k b w => by
    have hu : ∀ w, (underlying kt).run P w = .ok (.struct #[f0, f1]) w := fun w => run_underlying hf.und w
    have s0 : scT P f0.type = true := by simp [scT, u0]
    have s1 : scT P f1.type = true := by simp [scT, u1]
    have p0 : (part f0.type #[Value.string k.1, .int .i64 k.2] 0).run P w = .ok (.string k.1) w := run_part_sc s0 rfl w
    have p1 : (part f1.type #[Value.string k.1, .int .i64 k.2] 1).run P w = .ok (.int .i64 k.2) w := run_part_sc s1 rfl w
    have c0 := check_string (P := P) u0 9998 b k.1 w
    have c1 := check_int (P := P) u1 9998 b k.2 w
    unfold Instr.checkKey keyV
    simp [hu, n0, n1, o0, o1, p0, p1, c0, c1]
  bits := fun k => by
    have hb : (k.1 == k.1) = true := by rw [beq_dec]; simp
    simp [keyV, Instr.sameBits, bits_string, bits_int, hb]
end
end Go.Vc
end

section
set_option linter.unusedSimpArgs false
set_option linter.unusedVariables false
set_option linter.unusedSectionVars false
namespace Go.Vc
open Go

theorem reads_eql_nil {P : Program} {t : TypeId} {x y : Operand} {p : Option Addr} {h : Heap} (ht : P.underlying t = some (.pointer (P.pointee t))) :
    Reads P (eqSem .eql t x y (.pointer p) (.pointer none)) h (.bool p.isNone) :=
  ⟨fun w _ => by simp [eqSem, eqGuard, run_eql_pointer_nil w t p ht]⟩
theorem reads_max {P : Program} {ts : Array TypeId} {t : TypeId} {k : IntKind} {a b : Int} {h : Heap} : Reads P (Builtin.max_ ts t #[.int k a, .int k b]) h (.int k (if b > a then b else a)) :=
  ⟨fun w _ => run_max_int2 (P := P) w ts t k k a b⟩
theorem reads_min {P : Program} {ts : Array TypeId} {t : TypeId} {k : IntKind} {a b : Int} {h : Heap} : Reads P (Builtin.min_ ts t #[.int k a, .int k b]) h (.int k (if b < a then b else a)) :=
  ⟨fun w _ => by simp [Builtin.min_, Builtin.min2]⟩

theorem cell_cells {h : Heap} {b : Nat} {c : Array Value} {T : TypeId} {f : Nat × Nat} {k : Nat} {v : Value} (hb : h[b]? = some (.cells c T f)) (hk : c[k]? = some v) : cell h ((⟨b, 0, none⟩ : Addr).add k) = some v := by
  rw [Addr.add_row, Nat.zero_add, cell_at hb]; exact hk
theorem cell_cells0 {h : Heap} {b : Nat} {c : Array Value} {T : TypeId} {f : Nat × Nat} {v : Value} (hb : h[b]? = some (.cells c T f)) (hk : c[0]? = some v) : cell h (⟨b, 0, none⟩ : Addr) = some v := by
  rw [cell_at hb]; exact hk
/-- one cell of a box is written. -/
theorem svc_store_box {P : Program} {t T b k : Nat} {h : Heap} {old : Array Value} {v : Value} {K : Unit → Heap → Prop} (hsz : szOf P t = some 1) (hb : h[b]? = some (.cells old T (0, 0)))
    (ho : k < old.size) (hc : v.cells = #[v]) (hone : (∀ c, v ≠ .agg c) ∧ (∀ c, v ≠ .tuple c))
    (kk : ∀ h', h'.size = h.size → h'[b]? = some (.cells (old.toList.set k v).toArray T (0, 0)) → Upd (fun i => i = b) h h' → K () h') : SVC P (Instr.storeAt t (.pointer (some ((⟨b, 0, none⟩ : Addr).add k))) v) h K := by
  rw [Addr.add_row, Nat.zero_add]
  exact svc_store_cell hsz hb ho hc hone fun h' h1 h2 h3 => kk h' h1 h2 (upd_of_one h1 h3)
theorem Upd.fresh {S : Nat → Prop} {h h' : Heap} (k : Keep h.size h h') : Upd S h h' := k.upd S
theorem cells_all {h : Heap} {b : Nat} {cs : List Value} {T : TypeId} {f : Nat × Nat} (hb : h[b]? = some (.cells cs.toArray T f)) : ∀ j v, cs[j]? = some v → cell h ((⟨b, 0, none⟩ : Addr).add j) = some v :=
  fun j v hv => cell_cells hb (by simpa using hv)
theorem push2_0 (h : Heap) (a b : Obj) : ((h.push a).push b)[h.size]? = some a := by
  rw [Array.getElem?_push, if_neg (by simp), Array.getElem?_push, if_pos rfl]
theorem push2_1 (h : Heap) (a b : Obj) : ((h.push a).push b)[h.size + 1]? = some b := by
  rw [Array.getElem?_push, if_pos (by simp)]
theorem keep_push (h : Heap) (o : Obj) : Keep h.size h (h.push o) := Keep.push h.size h o (Nat.le_refl _)
theorem Sl.upd {α : Type} {E : Enc α} {h h' : Heap} {a : Option Addr} {n : Nat} {xs : List α} {S : Nat → Prop} (hs : Sl E h a n xs) (u : Upd S h h') (hS : ∀ b, blk a b → ¬ S b) : Sl E h' a n xs :=
  ⟨hs.1, hs.2.imp id fun ⟨p, e, hp⟩ => ⟨p, e, fun i x hx j v hv => by
    have hc := hp i x hx j v hv
    have hb : (p.add (i * E.sz + j)).block = p.block := Addr.add_block _ _
    rw [cell_congr (h := h) (u.block _ (cell_lt hc) (by rw [hb]; exact hS _ ⟨p, e, rfl⟩))]
    exact hc⟩⟩
/-- a slice's literal of one whole element. -/
theorem bs_one {P : Program} {t e : TypeId} {sz : Nat} {z v : Value} (hu : P.underlying t = some (.slice e)) (hs : szOf P e = some sz) (hz : (P.info? e).bind (·.zero) = some z) (hz' : z.cells.size = sz)
    (hle : sz ≤ 4096) (hp : 0 < sz) (hv : v.cells.size = sz) : bsCells P t 1 [(0, v)] = some (e, v.cells.toList) := by
  unfold bsCells
  rw [hu]
  simp only [hs, hz]
  have h1 : (Nat.ble (1 * sz) 4096 && !(Nat.beq (1 * sz) 0)) = true := by
    rw [Nat.one_mul, Bool.and_eq_true]
    refine ⟨Nat.ble_eq_true_of_le hle, ?_⟩
    cases hb : Nat.beq sz 0 with
    | false => rfl
    | true => have := Nat.eq_of_beq_eq_true hb; omega
  rw [h1]
  have hl : v.cells.toList.length = sz := by rw [Array.length_toList]; exact hv
  have h2 : (Nat.beq v.cells.toList.length sz && Nat.ble (0 * sz + v.cells.toList.length) (zerosL z.cells.toList (1 * sz)).length) = true := by
    rw [Bool.and_eq_true, hl]
    refine ⟨Nat.beq_refl _, Nat.ble_eq_true_of_le ?_⟩
    simp [zerosL]
  have h3 : putL (zerosL z.cells.toList (1 * sz)) (0 * sz) v.cells.toList = v.cells.toList := by
    rw [Nat.zero_mul]; exact putL_all _ _ (by simp [zerosL, hv])
  simp only [fillL, h2, h3]
theorem sl_bytes {h : Heap} {b : Nat} {xs : List UInt8} {T : TypeId} {f : Nat × Nat} (hb : h[b]? = some (.cells (xs.flatMap ByteE.enc).toArray T f)) : Sl ByteE h (some ⟨b, 0, none⟩) xs.length xs :=
  ⟨rfl, .inr ⟨_, rfl, fun i x hx j v hv => by
    rw [Addr.add_row, Nat.zero_add, cell_at hb]
    simpa using flat_get (E := ByteE) xs hx hv⟩⟩
/- ------------------------------------------------------------------ sums over the entries of a map -/
section
variable {κ : Type} [DecidableEq κ]
def sumV (l : List (κ × Int)) : Int := (l.map (·.2)).sum
theorem sumV_erase (l : List (κ × Int)) : ∀ (j : Nat) (p : κ × Int), l[j]? = some p → sumV (l.eraseIdx j) = sumV l - p.2 := by
  induction l with
  | nil => intro j p h; simp at h
  | cons a l ih =>
    intro j p h
    cases j with
    | zero => simp at h; subst h; simp [sumV]; omega
    | succ j => have := ih j p (by simpa using h); simp [sumV] at this ⊢; omega
theorem sumV_nonneg {l : List (κ × Int)} (h : ∀ p ∈ l, 0 ≤ p.2) : 0 ≤ sumV l := by
  induction l with
  | nil => simp [sumV]
  | cons a l ih =>
    have h1 := h a List.mem_cons_self
    have h2 := ih fun p hp => h p (List.mem_cons_of_mem _ hp)
    simp [sumV] at h2 ⊢; omega
theorem mGet_mem {ν : Type} {m : List (κ × ν)} (hn : (mKeys m).Nodup) (k : κ) (v : ν) : (k, v) ∈ m ↔ mGet m k = some v := by
  induction m with
  | nil => simp [mGet]
  | cons p m ih =>
    simp only [mKeys, List.map_cons, List.nodup_cons] at hn
    by_cases h : p.1 = k
    · subst h
      simp only [List.mem_cons, mGet, if_true, Option.some.injEq]
      constructor
      · rintro (h | h)
        · rw [← h]
        · exact absurd (List.mem_map_of_mem (f := (·.1)) h) hn.1
      · intro h; left; rw [← h]
    · simp only [List.mem_cons, mGet, if_neg h, ← ih hn.2]
      exact ⟨fun h0 => h0.resolve_left fun e => h (by rw [← e]), .inr⟩
theorem perm_of_get {ν : Type} [DecidableEq ν] {m l : List (κ × ν)} (hm : (mKeys m).Nodup) (hl : (mKeys l).Nodup) (h : ∀ k, mGet m k = mGet l k) : m.Perm l := by
  have nd : ∀ {m : List (κ × ν)}, (mKeys m).Nodup → m.Nodup := fun h => (List.Pairwise.of_map (·.1) (fun a b h e => h (by rw [e])) h)
  refine (List.perm_ext_iff_of_nodup (nd hm) (nd hl)).2 fun p => ?_
  rw [show p = (p.1, p.2) from rfl, mGet_mem hm, mGet_mem hl, h]
theorem sumV_perm {m l : List (κ × Int)} (h : m.Perm l) : sumV m = sumV l := by
  induction h with
  | nil => rfl
  | cons x _ ih => simp [sumV] at ih ⊢; omega
  | swap x y l => simp [sumV]; omega
  | trans _ _ h1 h2 => exact h1.trans h2
end
end Go.Vc
end

section
set_option linter.unusedSimpArgs false
set_option linter.unusedVariables false
namespace Go.Dk
open Go Go.Vc

abbrev Str := ByteArray
/- strings are ordered -/
theorem bl_irrefl : ∀ l : List UInt8, Op.bytesLess l l = false
  | [] => rfl
  | a :: l => by simp [Op.bytesLess, bl_irrefl l]
abbrev lt (a b : Str) : Bool := Op.bytesLess a.toList b.toList
theorem str_ext {a b : Str} (h : a.toList = b.toList) : a = b := by
  rw [ByteArray.toList_eq, ByteArray.toList_eq] at h
  cases a with | mk x => cases b with | mk y => congr 1; exact Array.toList_inj.1 h
theorem lt_irrefl (a : Str) : lt a a = false := bl_irrefl _
theorem eq_beq {a b : Str} : (a.toList == b.toList) = true ↔ a = b := ⟨fun h => str_ext (by simpa using h), fun h => by subst h; simp⟩
theorem beq_dec' (a b : Str) : (a.toList == b.toList) = decide (a = b) := by
  by_cases h : a = b
  · subst h; simp
  · rw [decide_eq_false h]; cases k : a.toList == b.toList with | false => rfl | true => exact absurd (eq_beq.1 k) h
theorem ne_of_lt {a b : Str} (h : lt a b = true) : a ≠ b := fun e => by subst e; rw [lt_irrefl] at h; cases h
abbrev Srt (l : List Str) : Prop := l.Pairwise fun a b => lt a b = true
theorem srt_nodup {l : List Str} (h : Srt l) : l.Nodup := h.imp fun h => ne_of_lt h
/- ------------------------------------------------------------------ files -/

abbrev Fs := List (Str × List Str)
abbrev names (F : Fs) : List Str := mKeys F
def SrtF (F : Fs) : Prop := Srt (names F)

/-- one file is this, in its place by rising names. -/
def put (n : Str) (l : List Str) : Fs → Fs
  | [] => [(n, l)]
  | p :: F => if p.1 = n then (n, l) :: F else if lt n p.1 then (n, l) :: p :: F else p :: put n l F
def del (n : Str) (F : Fs) : Fs := F.filter fun p => decide (p.1 ≠ n)
def tot (F : Fs) : Nat := (F.map fun p => p.2.length).sum
def pgs (F : Fs) (n : Str) : List Str := (mGet F n).getD []

theorem get_put {F : Fs} (h : SrtF F) (n : Str) (l : List Str) (q : Str) : mGet (put n l F) q = if q = n then some l else mGet F q := by
  induction F with
  | nil => by_cases e : q = n <;> simp [put, mGet, e]; exact fun h => e h.symm
  | cons p F ih =>
    have hp := List.pairwise_cons.1 h
    unfold put
    by_cases h1 : p.1 = n
    · subst h1; rw [if_pos rfl]; by_cases e : q = p.1
      · subst e; simp [mGet]
      · simp [mGet, e, Ne.symm e]
    · rw [if_neg h1]
      by_cases h2 : lt n p.1 = true
      · rw [if_pos h2]
        by_cases e : q = n
        · subst e; simp [mGet]
        · simp [mGet, e, Ne.symm e]
      · rw [if_neg h2]
        by_cases e : p.1 = q
        · subst e; simp [mGet, h1]
        · rw [mGet, if_neg e, ih hp.2, mGet, if_neg e]
/- ------------------------------------------------------------------ the disk -/

def zp : Str := ⟨Array.replicate 512 0⟩
/-- a file with a page, and noughts ahead of it. -/
def setP (l : List Str) (i : Nat) (p : Str) : List Str := (l ++ List.replicate (i + 1 - l.length) zp).set i p

structure Wt where
  n : Str
  i : Nat
  p : Str

structure D where
  now : Fs
  safe : Fs
  waits : List Wt
  room : Nat
  down : Bool
  acts : Int
  fuse : Nat
  keep : Int

def free (d : D) : Int := d.room - tot d.now
/-- is the i-th write kept? -/
def kept (keep : Int) (i : Nat) : Bool := (keep.toNat >>> (i % 64)) % 2 == 1
def app1 (F : Fs) (w : Wt) : Fs := put w.n (setP (pgs F w.n) w.i w.p) F
def keepW (keep : Int) : Nat → List Wt → Fs → Fs
  | _, [], F => F
  | i, w :: ws, F => keepW keep (i + 1) ws (if kept keep i then app1 F w else F)
def addN (F : Fs) (n : Str) : Fs := match mGet F n with | some _ => F | none => put n [] F
def offS (keep : Int) (d : D) : Fs := (names d.now).foldl addN (keepW keep 0 d.waits d.safe)
def off (keep : Int) (d : D) : D := if d.down then d else { d with now := offS keep d, safe := offS keep d, waits := [], down := true, fuse := 0 }
def act (d : D) : D := { d with acts := IntKind.i64.wrap (d.acts + 1), fuse := d.fuse - 1 }
def goes (d : D) : Bool := d.fuse == 1
/-- an act: the power may go in it. -/
def ended (d : D) : Int × D := if goes d then (8, off (act d).keep (act d)) else (0, act d)
def has (d : D) (n : Str) : Bool := !d.down && (mGet d.now n).isSome
def may (d : D) (n : Str) : Int × D :=
  if d.down then (8, d) else match mGet d.now n with | none => (5, d) | some _ => ended d
def drop (ws : List Wt) (n : Str) (k : Int) : List Wt := ws.filter fun w => !(decide (w.n = n) && decide (k ≤ (w.i : Int)))
def sync (d : D) (n : Str) : Int × D := match may d n with
  | (e, d1) => if e = 0 then (0, { d1 with safe := put n (pgs d1.now n) d1.safe, waits := drop d1.waits n 0 }) else (e, d1)
def cut (d : D) (n : Str) (k : Int) : Int × D :=
  if !d.down && (mGet d.now n).isSome && decide (k < 0) then (1, d) else match may d n with
  | (e, d1) => if e = 0 then (0, { d1 with now := put n ((pgs d1.now n).take k.toNat) d1.now, safe := put n ((pgs d1.safe n).take k.toNat) d1.safe, waits := drop d1.waits n k }) else (e, d1)
def count (d : D) (n : Str) : Nat := if d.down then 0 else (pgs d.now n).length
def read (d : D) (n : Str) (i : Int) : Str × Int :=
  if d.down then (⟨#[]⟩, 8) else if i < 0 ∨ ((pgs d.now n).length : Int) ≤ i then (⟨#[]⟩, 5) else ((pgs d.now n).getD i.toNat zp, 0)
def arm (d : D) (n keep : Int) : D := { d with fuse := n.toNat, keep := keep }
def on (d : D) : D := { d with down := false }
def new (room : Int) : D := { now := [], safe := [], waits := [], room := (min (max room 0) 4096).toNat, down := false, acts := 0, fuse := 0, keep := 0 }

/-- what always holds of a disk. -/
structure Ok (d : D) : Prop where
  now : SrtF d.now
  safe : SrtF d.safe
  room : d.room ≤ 4096
  tot : tot d.now ≤ d.room
  fewer : ∀ n, (pgs d.safe n).length ≤ (pgs d.now n).length
  waits : ∀ w ∈ d.waits, w.i < (pgs d.now w.n).length ∧ w.p.size = 512
  pnow : ∀ n, ∀ p ∈ pgs d.now n, p.size = 512
  psafe : ∀ n, ∀ p ∈ pgs d.safe n, p.size = 512
  fuse : d.fuse ≤ 9223372036854775807
  keep : 0 ≤ d.keep ∧ d.keep < 18446744073709551616
end Go.Dk
end

section
set_option linter.unusedVariables false
set_option maxRecDepth 100000
namespace Go.Proofs.YtbfolflejhkehaaGreatDoor
open Go Go.Vc Go.Proofs

theorem vcFree (d : Nat) (h : Heap) (R : Value → Heap → Prop) :
    vcF Tryz.prog Tryz.f275 26 [] [] [.pointer (some ⟨d, 0, none⟩)] h R =
(∃ (b0 : Bool),
 Reads Tryz.prog (eqSem BinOp.eql (43 : Nat) (Operand.tmp (6 : Nat)) (Operand.const (Value.pointer none)) (Value.pointer (some (Addr.mk d (0 : Nat) none))) (Value.pointer none)) h (Value.bool b0) ∧
 br b0 (R (Value.int IntKind.i64 (0 : Int)) h)
 (∃ (p1 : Addr),
 some (Addr.mk d (0 : Nat) none) = some p1 ∧
 ∃ (n2 : Int),
 Reads Tryz.prog (Instr.loadAt (3 : Nat) (Value.pointer (some (p1.add (5 : Nat))))) h (Value.int IntKind.i64 n2) ∧
 ∃ (p3 : Addr),
 some (Addr.mk d (0 : Nat) none) = some p3 ∧
 ∃ (a4 : Option Nat),
 Reads Tryz.prog (Instr.loadAt (64 : Nat) (Value.pointer (some p3))) h (Value.map a4) ∧
 SVC Tryz.prog (Instr.range (64 : Nat) (Value.map a4)) h fun (v5 : Value) (h6 : Heap) =>
 ∃ (a7 : Option Addr),
 v5 = Value.pointer a7 ∧
 ∃ (I8 : Int → Heap → Prop),
 ∃ (I9 : Int → Heap → Nat),
 I8 n2 h6 ∧
 ∀ (n10 : Int) (h11 : Heap),
 I8 n10 h11 →
 SVC Tryz.prog (Instr.next (Value.pointer a7) false (0 : Nat)) h11 fun (v12 : Value) (h13 : Heap) =>
 v12 = Value.tuple (Array.mk [Value.bool false]) ∧ R (Value.int IntKind.i64 n10) h13 ∨
 ∃ (v14 : Value),
 ∃ (v15 : Value),
 v12 = Value.tuple (Array.mk [Value.bool true, v14, v15]) ∧
 ∃ (v16 : Value),
 ∃ (n17 : Int),
 Reads Tryz.prog (Instr.entry (Value.pointer a7)) h13 (Value.tuple (Array.mk [v16, Value.int IntKind.i64 n17])) ∧
 I8 (IntKind.i64.wrap (n10 - n17)) h13 ∧ I9 (IntKind.i64.wrap (n10 - n17)) h13 < I9 n10 h11)) := by kernel_rfl

theorem vcClone (c p : Nat) (h : Heap) (R : Value → Heap → Prop) :
    vcF Tryz.prog Tryz.f20 10 [] [] [.agg #[.map (some c), .map (some p)]] h R =
(∃ (I0 : Heap → Prop),
 I0 ((Array.push h (Obj.cells (Array.mk [Value.map (some c), Value.map (some p)]) (67 : Nat))).push (Obj.cells (Array.mk [Value.map none, Value.map none]) (67 : Nat))) ∧
 ∃ (a1 : Option Nat),
 Reads Tryz.prog (Instr.loadAt (64 : Nat) (Value.pointer (some (Addr.mk (Array.size h) (0 : Nat) none))))
 ((Array.push h (Obj.cells (Array.mk [Value.map (some c), Value.map (some p)]) (67 : Nat))).push (Obj.cells (Array.mk [Value.map none, Value.map none]) (67 : Nat))) (Value.map a1) ∧
 HC Tryz.prog (50 : Nat) (Array.mk [Value.map a1])
 ((Array.push h (Obj.cells (Array.mk [Value.map (some c), Value.map (some p)]) (67 : Nat))).push (Obj.cells (Array.mk [Value.map none, Value.map none]) (67 : Nat)))
 fun (v2 : Value) (h3 : Heap) =>
 ∃ (a4 : Option Nat),
 v2 = Value.map a4 ∧
 I0 h3 ∧
 ∃ (a5 : Option Nat),
 (∀ (h6 : Heap), I0 h6 → Reads Tryz.prog (Instr.loadAt (65 : Nat) (Value.pointer (some ((Addr.mk (Array.size h) (0 : Nat) none).add (1 : Nat))))) h6 (Value.map a5)) ∧
 HC Tryz.prog (51 : Nat) (Array.mk [Value.map a5]) h3 fun (v7 : Value) (h8 : Heap) =>
 ∃ (a9 : Option Nat),
 v7 = Value.map a9 ∧
 SVC Tryz.prog
 (Instr.storeAt (67 : Nat) (Value.pointer (some (Addr.mk (Array.push h (Obj.cells (Array.mk [Value.map (some c), Value.map (some p)]) (67 : Nat))).size (0 : Nat) none)))
 (Value.agg (Array.mk [Value.map a4, Value.map a9])))
 h8 fun (x10 : Unit) (h11 : Heap) =>
 ∃ (a12 : Option Nat),
 ∃ (a13 : Option Nat),
 Reads Tryz.prog (loadVar (67 : Nat) (Addr.mk (Array.push h (Obj.cells (Array.mk [Value.map (some c), Value.map (some p)]) (67 : Nat))).size (0 : Nat) none)) h11
 (Value.agg (Array.mk [Value.map a12, Value.map a13])) ∧
 R (Value.agg (Array.mk [Value.map a12, Value.map a13])) h11) := by kernel_rfl

theorem vcNew (room : Int) (h : Heap) (R : Value → Heap → Prop) :
    vcF Tryz.prog Tryz.f11 15 [] [] [.int .i64 room] h R =
(SVC Tryz.prog
 (Instr.storeAt (67 : Nat) (Value.pointer (some (Addr.mk ((Array.push h (Obj.map (Array.mk []) (0 : Nat))).push (Obj.map (Array.mk []) (0 : Nat))).size (0 : Nat) none)))
 (Value.agg (Array.mk [Value.map (some (Array.size h)), Value.map (some (Array.push h (Obj.map (Array.mk []) (0 : Nat))).size)])))
 (((Array.push h (Obj.map (Array.mk []) (0 : Nat))).push (Obj.map (Array.mk []) (0 : Nat))).push (Obj.cells (Array.mk [Value.map none, Value.map none]) (67 : Nat))) fun (x0 : Unit) (h1 : Heap) =>
 ∃ (I2 : Heap → Prop),
 I2 h1 ∧
 ∃ (a3 : Option Nat),
 ∃ (a4 : Option Nat),
 (∀ (h5 : Heap),
 I2 h5 →
 Reads Tryz.prog (Instr.loadAt (67 : Nat) (Value.pointer (some (Addr.mk ((Array.push h (Obj.map (Array.mk []) (0 : Nat))).push (Obj.map (Array.mk []) (0 : Nat))).size (0 : Nat) none))))
 h5 (Value.agg (Array.mk [Value.map a3, Value.map a4]))) ∧
 ∃ (a6 : Option Nat),
 ∃ (a7 : Option Nat),
 Reads Tryz.prog (Instr.loadAt (67 : Nat) (Value.pointer (some (Addr.mk ((Array.push h (Obj.map (Array.mk []) (0 : Nat))).push (Obj.map (Array.mk []) (0 : Nat))).size (0 : Nat) none))))
 h1 (Value.agg (Array.mk [Value.map a6, Value.map a7])) ∧
 HC Tryz.prog (20 : Nat) (Array.mk [Value.agg (Array.mk [Value.map a6, Value.map a7])]) h1 fun (v8 : Value) (h9 : Heap) =>
 ∃ (a10 : Option Nat),
 ∃ (a11 : Option Nat),
 v8 = Value.agg (Array.mk [Value.map a10, Value.map a11]) ∧
 I2 h9 ∧
 ∃ (n12 : Int),
 (∀ (h13 : Heap),
 I2 h13 →
 Reads Tryz.prog (Builtin.max_ (Array.mk [(3 : Nat), (3 : Nat)]) (3 : Nat) (Array.mk [Value.int IntKind.i64 room, Value.int IntKind.i64 (0 : Int)])) h13
 (Value.int IntKind.i64 n12)) ∧
 ∃ (n14 : Int),
 (∀ (h15 : Heap),
 I2 h15 →
 Reads Tryz.prog (Builtin.min_ (Array.mk [(3 : Nat), (3 : Nat)]) (3 : Nat) (Array.mk [Value.int IntKind.i64 n12, Value.int IntKind.i64 (4096 : Int)])) h15
 (Value.int IntKind.i64 n14)) ∧
 R (Value.pointer (some (Addr.mk (Array.size h9) (0 : Nat) none)))
 (Array.push h9
 (Obj.cells
 (Array.mk
 [Value.map a3, Value.map a4, Value.map a10, Value.map a11, Value.slice none (0 : Nat) (0 : Nat), Value.int IntKind.i64 n14, Value.bool false,
 Value.int IntKind.i64 (0 : Int), Value.int IntKind.i64 (0 : Int), Value.int IntKind.u64 (0 : Int)])
 (72 : Nat)))) := by kernel_rfl

end Go.Proofs.YtbfolflejhkehaaGreatDoor
end

section
set_option linter.unusedVariables false
set_option linter.unusedSimpArgs false
set_option maxRecDepth 100000
namespace Go.Proofs.YtbfolflejhkehaaGreatDoor
open Go Go.Vc Go.Proofs Go.Dk

theorem hm : Tryz.prog.follows .mixedOrders = true := by kernel_rfl
theorem undS : Tryz.prog.underlying 9 = some .string := by kernel_rfl
theorem undB : Tryz.prog.underlying 5 = some (.int .u8) := by kernel_rfl
theorem undBs : Tryz.prog.underlying 23 = some (.slice 5) := by kernel_rfl
theorem undD : Tryz.prog.underlying 43 = some (.pointer (Tryz.prog.pointee 43)) := by kernel_rfl
theorem undMc : Tryz.prog.underlying 64 = some (.map 9 3) := by kernel_rfl
theorem undMp : Tryz.prog.underlying 65 = some (.map 105 107) := by kernel_rfl
theorem scS : scT Tryz.prog 9 = true := by kernel_rfl
theorem scI : scT Tryz.prog 3 = true := by kernel_rfl
theorem scMc : scT Tryz.prog 64 = true := by kernel_rfl
theorem scMp : scT Tryz.prog 65 = true := by kernel_rfl
theorem agSide : agT Tryz.prog 67 2 = true := by kernel_rfl
theorem szSide : szOf Tryz.prog 67 = some 2 := by kernel_rfl
/-- a page's cells. -/
def pgC (s : Str) : List Value := (List.range 512).map fun j => .int .u8 ((s.data.getD j 0).toNat : Nat)
theorem pgC_len (s : Str) : (pgC s).length = 512 := by simp [pgC]
def pv (s : Str) : Value := .agg (pgC s).toArray
theorem flatAt : Flat Tryz.prog 105 #[(Tryz.prog.fieldsOf 105)[0]!, (Tryz.prog.fieldsOf 105)[1]!] := ⟨by kernel_rfl, by kernel_rfl, by kernel_rfl⟩
def Mc : Mk Tryz.prog 64 9 3 Str Int := strMk Tryz.prog 64 9 3 Int (.int .i64) undMc undS
def Mp : Mk Tryz.prog 65 105 107 (Str × Int) Str :=
  pairMk Tryz.prog 65 105 107 Str pv _ _ undMp flatAt (by decide +kernel) (by decide +kernel) (by kernel_rfl) (by kernel_rfl) (by kernel_rfl) (by kernel_rfl)

/-- the i-th page of a file, with noughts where there is none. -/
def pg (F : Fs) (n : Str) (i : Int) : Str := if 0 ≤ i then (pgs F n).getD i.toNat zp else zp
/-- files, told by two maps. -/
structure Like (F : Fs) (mc : List (Str × Int)) (mp : List ((Str × Int) × Str)) : Prop where
  count : ∀ n, mGet mc n = (mGet F n).map fun l => (l.length : Int)
  page : ∀ n i, (mGet mp (n, i)).getD zp = pg F n i
  there : ∀ n i, (mGet mp (n, i)).isSome = true → 0 ≤ i ∧ i < (pgs F n).length
/-- files on a heap. -/
def SideAt (h : Heap) (c p : Nat) (F : Fs) : Prop := ∃ mc mp, MapAt Mc h c mc ∧ MapAt Mp h p mp ∧ Like F mc mp

theorem SideAt.upd {h h' : Heap} {c p : Nat} {F : Fs} {S : Nat → Prop} (hs : SideAt h c p F) (u : Upd S h h') (hc : ¬ S c) (hp : ¬ S p) : SideAt h' c p F := by
  obtain ⟨mc, mp, h1, h2, h3⟩ := hs
  exact ⟨mc, mp, h1.upd u hc, h2.upd u hp, h3⟩
theorem SideAt.lt {h : Heap} {c p : Nat} {F : Fs} (hs : SideAt h c p F) : c < h.size ∧ p < h.size := by
  obtain ⟨mc, mp, h1, h2, h3⟩ := hs
  exact ⟨h1.lt, h2.lt⟩

/-- a write that isn't safe, in cells. -/
def WtE : Enc Wt := ⟨514, fun w => .string w.n :: .int .i64 w.i :: pgC w.p, fun w => by simp [pgC_len], fun w v hv => by
  simp only [List.mem_cons] at hv
  rcases hv with rfl | rfl | hv
  · exact one_string _
  · exact one_int _ _
  · simp only [pgC, List.mem_map] at hv
    obtain ⟨j, _, rfl⟩ := hv
    exact one_int _ _⟩

def diskC (c1 p1 c2 p2 : Nat) (A : Option Addr) (n c : Nat) (x : D) : List Value :=
  [.map (some c1), .map (some p1), .map (some c2), .map (some p2), .slice A n c, .int .i64 x.room, .bool x.down, .int .i64 x.acts, .int .i64 x.fuse, .int .u64 x.keep]
/-- a disk on a heap, by its blocks. -/
structure DiskP (h : Heap) (d c1 p1 c2 p2 : Nat) (A : Option Addr) (n c : Nat) (x : D) : Prop where
  box : h[d]? = some (.cells (diskC c1 p1 c2 p2 A n c x).toArray 72 (0, 0))
  now : SideAt h c1 p1 x.now
  safe : SideAt h c2 p2 x.safe
  waits : Vc.Own WtE 157 0 h A n c x.waits
  nd : [c1, p1, c2, p2].Nodup
  ok : Ok x

/-- its blocks. -/
def blks (d c1 p1 c2 p2 : Nat) (A : Option Addr) (b : Nat) : Prop := b = d ∨ b = c1 ∨ b = p1 ∨ b = c2 ∨ b = p2 ∨ blk A b
/-- a disk on a heap, all of whose blocks are of O. -/
def DiskAt (h : Heap) (d : Nat) (x : D) (O : Nat → Prop) : Prop :=
  (∀ b, O b → b < h.size) ∧ ∃ c1 p1 c2 p2 A n c, DiskP h d c1 p1 c2 p2 A n c x ∧ ∀ b, blks d c1 p1 c2 p2 A b → O b

section
variable {h h' : Heap} {d c1 p1 c2 p2 : Nat} {A : Option Addr} {n c : Nat} {x : D} {O : Nat → Prop}

theorem DiskP.ne_map (hd : DiskP h d c1 p1 c2 p2 A n c x) : d ≠ c1 ∧ d ≠ p1 ∧ d ≠ c2 ∧ d ≠ p2 := by
  have e := hd.box
  obtain ⟨_, _, ⟨_, _, b1, _⟩, ⟨_, _, b2, _⟩, _⟩ := hd.now
  obtain ⟨_, _, ⟨_, _, b3, _⟩, ⟨_, _, b4, _⟩, _⟩ := hd.safe
  refine ⟨?_, ?_, ?_, ?_⟩ <;> (intro h0; subst h0; simp_all)
theorem DiskP.ne_waits (hd : DiskP h d c1 p1 c2 p2 A n c x) {b : Nat} (hb : blk A b) : b ≠ d ∧ b ≠ c1 ∧ b ≠ p1 ∧ b ≠ c2 ∧ b ≠ p2 := by
  have e := hd.box
  obtain ⟨_, _, ⟨_, _, b1, _⟩, ⟨_, _, b2, _⟩, _⟩ := hd.now
  obtain ⟨_, _, ⟨_, _, b3, _⟩, ⟨_, _, b4, _⟩, _⟩ := hd.safe
  obtain ⟨q, rfl, rfl⟩ := hb
  rcases hd.waits.2.2 with ⟨h0, _⟩ | ⟨b', cells, h0, _, hb', _⟩
  · cases h0
  · cases h0
    refine ⟨?_, ?_, ?_, ?_, ?_⟩ <;> (intro h0; subst h0; simp_all)
theorem DiskP.lt (hd : DiskP h d c1 p1 c2 p2 A n c x) {b : Nat} (hb : blks d c1 p1 c2 p2 A b) : b < h.size := by
  rcases hb with rfl | rfl | rfl | rfl | rfl | hb
  · exact at_lt hd.box
  · exact hd.now.lt.1
  · exact hd.now.lt.2
  · exact hd.safe.lt.1
  · exact hd.safe.lt.2
  · exact (hd.waits.block b hb).2
theorem DiskP.upd {S : Nat → Prop} (hd : DiskP h d c1 p1 c2 p2 A n c x) (u : Upd S h h') (hs : ∀ b, blks d c1 p1 c2 p2 A b → ¬ S b) : DiskP h' d c1 p1 c2 p2 A n c x :=
  ⟨u.at hd.box (hs d (.inl rfl)), hd.now.upd u (hs _ (.inr (.inl rfl))) (hs _ (.inr (.inr (.inl rfl)))), hd.safe.upd u (hs _ (.inr (.inr (.inr (.inl rfl))))) (hs _ (.inr (.inr (.inr (.inr (.inl rfl)))))),
    hd.waits.upd u (fun b hb => hs b (.inr (.inr (.inr (.inr (.inr hb)))))), hd.nd, hd.ok⟩
theorem DiskAt.upd {S : Nat → Prop} (hd : DiskAt h d x O) (u : Upd S h h') (hs : ∀ b, O b → ¬ S b) : DiskAt h' d x O := by
  obtain ⟨hO, c1, p1, c2, p2, A, n, c, hp, hb⟩ := hd
  exact ⟨fun b h0 => Nat.lt_of_lt_of_le (hO b h0) u.size, c1, p1, c2, p2, A, n, c, hp.upd u fun b h0 => hs b (hb b h0), hb⟩
theorem DiskAt.keep (hd : DiskAt h d x O) (k : Keep h.size h h') : DiskAt h' d x O :=
  hd.upd (k.upd fun _ => False) fun _ _ h => h
theorem DiskAt.lt (hd : DiskAt h d x O) {b : Nat} (hb : O b) : b < h.size := hd.1 b hb
theorem DiskAt.ok (hd : DiskAt h d x O) : Ok x := by obtain ⟨_, _, _, _, _, _, _, _, hp, _⟩ := hd; exact hp.ok
theorem DiskAt.box (hd : DiskAt h d x O) : O d := by obtain ⟨_, _, _, _, _, _, _, _, hp, hb⟩ := hd; exact hb d (.inl rfl)

theorem DiskP.rd (hd : DiskP h d c1 p1 c2 p2 A n c x) {k : Nat} {v : Value} (hk : (diskC c1 p1 c2 p2 A n c x)[k]? = some v) : cell h ((⟨d, 0, none⟩ : Addr).add k) = some v :=
  cell_cells hd.box (by simpa using hk)

/-- the box alone is written. -/
theorem DiskP.store {c' : List Value} {A' : Option Addr} {n' m' : Nat} {y : D} (hd : DiskP h d c1 p1 c2 p2 A n c x) (hb : h'[d]? = some (.cells c'.toArray 72 (0, 0))) (hc : c' = diskC c1 p1 c2 p2 A n c y)
    (u : Upd (fun b => b = d) h h') (e1 : y.now = x.now) (e2 : y.safe = x.safe) (e3 : y.waits = x.waits) (ok : Ok y) : DiskP h' d c1 p1 c2 p2 A n c y := by
  obtain ⟨q1, q2, q3, q4⟩ := hd.ne_map
  refine ⟨by rw [hb, hc], by rw [e1]; exact hd.now.upd u (Ne.symm q1) (Ne.symm q2), by rw [e2]; exact hd.safe.upd u (Ne.symm q3) (Ne.symm q4), by rw [e3]; exact hd.waits.upd u fun b hb => (hd.ne_waits hb).1, hd.nd, ok⟩
end

end Go.Proofs.YtbfolflejhkehaaGreatDoor
end

section
set_option linter.unusedSimpArgs false
set_option linter.unusedVariables false
namespace Go.Vc
open Go

end Go.Vc
end

section
set_option linter.unusedSimpArgs false
set_option linter.unusedVariables false
namespace Go.Vc
open Go

section
variable {α : Type} {E : Enc α}
/-- a slice of the call's own, wherever it begins in its row. -/
def OwnO (E : Enc α) (T : TypeId) (B : Nat) (h : Heap) (a : Option Addr) (n c : Nat) (xs : List α) : Prop :=
  xs.length = n ∧ n ≤ c ∧ ((a = none ∧ c = 0) ∨ ∃ b o cells pre rest, a = some ⟨b, o, none⟩ ∧ B ≤ b ∧ h[b]? = some (.cells cells T (0, 0)) ∧ o + c * E.sz ≤ cells.size ∧ pre.length = o ∧
    cells.toList = pre ++ (xs.flatMap E.enc ++ rest))

theorem Own.o {T : TypeId} {B : Nat} {h : Heap} {a : Option Addr} {n c : Nat} {xs : List α} (ho : Vc.Own E T B h a n c xs) : OwnO E T B h a n c xs :=
  ⟨ho.1, ho.2.1, ho.2.2.imp id fun ⟨b, cells, e, hB, hb, hs, rest, hr⟩ => ⟨b, 0, cells, [], rest, e, hB, hb, by omega, rfl, by simpa using hr⟩⟩
theorem OwnO.nil (T : TypeId) (B : Nat) (h : Heap) : OwnO E T B h none 0 0 [] := ⟨rfl, Nat.le_refl _, .inl ⟨rfl, rfl⟩⟩
theorem OwnO.block {T : TypeId} {B : Nat} {h : Heap} {a : Option Addr} {n c : Nat} {xs : List α} (ho : OwnO E T B h a n c xs) : ∀ b, blk a b → B ≤ b ∧ b < h.size := by
  rintro b ⟨p, rfl, rfl⟩
  rcases ho.2.2 with ⟨e, _⟩ | ⟨b, o, cells, pre, rest, e, hB, hb, _⟩
  · cases e
  · cases e
    refine ⟨hB, ?_⟩
    by_cases hlt : b < h.size
    · exact hlt
    · rw [Array.getElem?_eq_none (by omega)] at hb; cases hb
theorem OwnO.sl {T : TypeId} {B : Nat} {h : Heap} {a : Option Addr} {n c : Nat} {xs : List α} (ho : OwnO E T B h a n c xs) : Sl E h a n xs := by
  obtain ⟨hl, hc, hr⟩ := ho
  refine ⟨hl, ?_⟩
  rcases hr with ⟨rfl, rfl⟩ | ⟨b, o, cells, pre, rest, rfl, hB, hb, hsz, hpre, hrest⟩
  · exact .inl (List.eq_nil_of_length_eq_zero (by omega))
  · refine .inr ⟨_, rfl, fun i x hx j v hv => ?_⟩
    have hf := flat_get (E := E) xs hx hv
    have hlt := (List.getElem?_eq_some_iff.1 hf).1
    rw [Addr.add_row]
    unfold cell
    simp only [hb, Option.isSome_none, Bool.false_eq_true, if_false]
    rw [← Array.getElem?_toList, hrest, List.getElem?_append_right (by omega), hpre, Nat.add_sub_cancel_left, List.getElem?_append_left hlt]
    exact hf
theorem OwnO.upd {T : TypeId} {B : Nat} {h h' : Heap} {a : Option Addr} {n c : Nat} {xs : List α} {S : Nat → Prop} (ho : OwnO E T B h a n c xs) (u : Upd S h h') (hs : ∀ b, blk a b → ¬ S b) :
    OwnO E T B h' a n c xs := by
  obtain ⟨hl, hc, hr⟩ := ho
  refine ⟨hl, hc, hr.imp id ?_⟩
  rintro ⟨b, o, cells, pre, rest, rfl, hB, hb, more⟩
  have hlt : b < h.size := by
    by_cases hlt : b < h.size
    · exact hlt
    · rw [Array.getElem?_eq_none (by omega)] at hb; cases hb
  exact ⟨b, o, cells, pre, rest, rfl, hB, by rw [u.block b hlt (hs b ⟨_, rfl, rfl⟩)]; exact hb, more⟩
/-- what lies behind the first ones. -/
theorem OwnO.drop {T : TypeId} {B : Nat} {h : Heap} {a : Option Addr} {n c : Nat} {xs : List α} (ho : OwnO E T B h a n c xs) {l : Nat} (hl : l ≤ n) : OwnO E T B h (subA a l c E.sz) (n - l) (c - l) (xs.drop l) := by
  obtain ⟨hn, hc, hr⟩ := ho
  refine ⟨by rw [List.length_drop]; omega, by omega, ?_⟩
  rcases hr with ⟨rfl, rfl⟩ | ⟨b, o, cells, pre, rest, rfl, hB, hb, hsz, hpre, hrest⟩
  · exact .inl ⟨by unfold subA; split <;> rfl, by omega⟩
  · right
    by_cases e : c = l
    · refine ⟨b, o, cells, pre, xs.flatMap E.enc ++ rest, by simp [subA, e], hB, hb, ?_, hpre, ?_⟩
      · rw [e, Nat.sub_self]; omega
      · rw [List.drop_eq_nil_of_le (by omega), hrest]; simp
    · have hm : (c - l) * E.sz + l * E.sz = c * E.sz := by rw [← Nat.add_mul, Nat.sub_add_cancel (by omega)]
      refine ⟨b, o + l * E.sz, cells, pre ++ (xs.take l).flatMap E.enc, rest, by rw [subA, if_neg e]; simp [Addr.add_row], hB, hb, by omega, ?_, ?_⟩
      · rw [List.length_append, flat_len, List.length_take, hpre, show min l xs.length = l by omega]
      · rw [hrest]
        have : xs.flatMap E.enc = (xs.take l).flatMap E.enc ++ (xs.drop l).flatMap E.enc := by rw [← List.flatMap_append, List.take_append_drop]
        rw [this]; simp

end

end Go.Vc
end

section
set_option linter.unusedVariables false
namespace Go.Vc
open Go Go.RowKit

theorem calls_of_HC {P : Program} {f : FuncId} {args : Array Value} {w : World} {v0 : Value} (h : HC P f args w.heap fun v h' => Keep w.heap.size w.heap h' ∧ v = v0) :
    Calls P f args w fun e w' => e = .returned v0 ∧ Below w.heap.size w w' :=
  (h.run w rfl).mono fun e w' ⟨v, he, hs, hk, hv⟩ => by
    subst hv
    exact ⟨he, hs.os, hs.tape, hs.output, hk.size, hk.block⟩

end Go.Vc
end

section
set_option linter.unusedVariables false
namespace Go.Vc
open Go Go.RowKit

/-- what a row of cells that reads at type e is, over its world. -/
def DecW {α : Type} (E : Enc α) (P : Program) (e : TypeId) (good : World → α → Prop) : Prop :=
  ∀ {H : Type} {enc : TypeId × Value → H} {w : World} {base : Nat} {spare : Nat → Bool} {held : Bool} {n : Nat} {cs : List Value} {d : DataW H × List MemPlace},
    DataW.trod enc P w base spare held n e cs = some d → ∃ x, cs = E.enc x ∧ good w x

def SliceE : Enc (Option Addr × Nat × Nat) := ⟨1, fun s => [.slice s.1 s.2.1 s.2.2], fun _ => rfl, fun p v h => by simp at h; subst h; exact one_slice _ _ _⟩
def IntE (k : IntKind) : Enc Int := ⟨1, fun n => [.int k n], fun _ => rfl, fun p v h => by simp at h; subst h; exact one_int _ _⟩
def StrE : Enc ByteArray := ⟨1, fun s => [.string s], fun _ => rfl, fun p v h => by simp at h; subst h; exact one_string _⟩

theorem wf_bounds {k : IntKind} {n : Int} (h : (Lit.int k n).wf = true) : k.min ≤ n ∧ n ≤ k.max := by
  simpa [Lit.wf] using h
theorem decInt {P : Program} {e : TypeId} {k : IntKind} (he : P.underlying e = some (.int k)) : DecW (IntE k) P e fun _ n => k.min ≤ n ∧ n ≤ k.max := fun h => by
  obtain ⟨n, rfl, _, hw⟩ := DataW.trod_int he h
  exact ⟨n, rfl, wf_bounds hw⟩
/-- a slice, read as a list. -/
def SlG {α : Type} (E : Enc α) (good : World → α → Prop) (w : World) (s : Option Addr × Nat × Nat) : Prop :=
  ∃ xs, Sl E w.heap s.1 s.2.1 xs ∧ s.2.1 ≤ s.2.2 ∧ s.2.1 ≤ 9223372036854775807 ∧ ∀ x ∈ xs, good w x
/-- an argument that came in. -/
theorem open_arg {α : Type} {E : Enc α} {good : World → α → Prop} {P : Program} {t : TypeId} {H : Type} {enc : TypeId × Value → H} {w : World} {base : Nat} {spare : Nat → Bool} {held : Bool} {v : Value} {d : DataW H} {ps : List MemPlace}
    (dec : DecW E P t good) (h : DataW.Trod enc P w base spare held t v d ps) : ∃ x, v.cells.toList = E.enc x ∧ good w x := by
  obtain ⟨fuel, hf⟩ := h
  exact dec hf
theorem open_int {k : IntKind} {P : Program} {t : TypeId} {H : Type} {enc : TypeId × Value → H} {w : World} {base : Nat} {spare : Nat → Bool} {held : Bool} {n : Int} {d : DataW H} {ps : List MemPlace}
    (ht : P.underlying t = some (.int k)) (h : DataW.Trod enc P w base spare held t (.int k n) d ps) : k.min ≤ n ∧ n ≤ k.max := by
  obtain ⟨x, e0, g⟩ := open_arg (decInt ht) h
  simp [Value.cells, IntE] at e0
  subst e0
  exact g
end Go.Vc
end

section
set_option linter.unusedSimpArgs false
set_option linter.unusedVariables false
namespace Go.Vc
open Go

section
variable {α : Type} {E : Enc α} {N M : Nat → Prop} {h h' : Heap} {a : Option Addr} {n : Nat} {xs : List α}
/-- blocks of a set all lie in a heap. -/
def Nb (N : Nat → Prop) (h : Heap) : Prop := ∀ q, N q → q < h.size
theorem Nb.mono {N : Nat → Prop} (hN : Nb N h) (hs : h.size ≤ h'.size) : Nb N h' := fun q hq => Nat.lt_of_lt_of_le (hN q hq) hs
def SlN (E : Enc α) (N : Nat → Prop) (h : Heap) (a : Option Addr) (n : Nat) (xs : List α) : Prop := Sl E h a n xs ∧ (xs ≠ [] → ∀ q, blk a q → ¬ N q)
theorem SlN.nil (N : Nat → Prop) (h : Heap) (a : Option Addr) : SlN E N h a 0 [] := ⟨Sl.nil _ _, fun h => absurd rfl h⟩
theorem SlN.len (hs : SlN E N h a n xs) : xs.length = n := hs.1.1
theorem SlN.sl (hs : SlN E N h a n xs) : Sl E h a n xs := hs.1
theorem SlN.upd (hs : SlN E N h a n xs) (u : Upd N h h') : SlN E N h' a n xs := by
  by_cases hx : xs = []
  · subst hx
    exact ⟨⟨hs.1.1, .inl rfl⟩, fun h => absurd rfl h⟩
  · exact ⟨hs.1.upd u (hs.2 hx), hs.2⟩
theorem SlN.keep (hs : SlN E N h a n xs) (k : Keep h.size h h') : SlN E N h' a n xs := hs.upd (k.upd N)
theorem SlN.lt (hz : 0 < E.sz) (hs : SlN E N h a n xs) (hx : xs ≠ []) : ∀ q, blk a q → q < h.size := fun q hq => by
  cases xs with
  | nil => exact absurd rfl hx
  | cons x xs =>
    obtain ⟨p, hp, hc⟩ := hs.1.get (i := 0) (x := x) rfl
    obtain ⟨p', e, hq'⟩ := hq
    rw [hp] at e
    cases e
    have hj : 0 < (E.enc x).length := by rw [E.len]; exact hz
    have h4 := cell_lt (hc 0 _ (List.getElem?_eq_getElem hj))
    rw [Addr.add_block, hq'] at h4
    exact h4
theorem SlN.turn (hz : 0 < E.sz) (hs : SlN E N h a n xs) (hM : ∀ q, q < h.size → M q → N q) : SlN E M h a n xs :=
  ⟨hs.1, fun hx q hq hm => hs.2 hx q hq (hM q (hs.lt hz hx q hq) hm)⟩
/-- an element's cells. -/
theorem SlN.row (hs : SlN E N h a n xs) {i : Nat} {x : α} (hx : xs[i]? = some x) : ∃ p, a = some p ∧ ∀ j v, (E.enc x)[j]? = some v → cell h ((p.add (i * E.sz)).add j) = some v := by
  obtain ⟨p, e, hp⟩ := hs.1.get hx
  exact ⟨p, e, fun j v hv => by rw [Addr.add_add]; exact hp j v hv⟩
end

/-- a file as it lies in a row: a name, and a slice of pages, which read as a list. -/
structure Fl where
  n : ByteArray
  a : Option Addr
  len : Nat
  cap : Nat
  pages : List ByteArray
def FlE : Enc Fl := ⟨2, fun f => [.string f.n, .slice f.a f.len f.cap], fun _ => rfl, fun f v h => by
  simp only [List.mem_cons, List.not_mem_nil, or_false] at h
  rcases h with rfl | rfl
  · exact one_string _
  · exact one_slice _ _ _⟩
abbrev Fl.val (f : Fl) : Value := .agg #[.string f.n, .slice f.a f.len f.cap]
def Fl.pl (f : Fl) : ByteArray × List ByteArray := (f.n, f.pages)
structure FlOk (N : Nat → Prop) (h : Heap) (f : Fl) : Prop where
  sl : SlN StrE N h f.a f.len f.pages
  cap : f.len ≤ f.cap
/-- files in a slice. -/
structure FsN (N : Nat → Prop) (h : Heap) (a : Option Addr) (n : Nat) (fs : List Fl) : Prop where
  sl : SlN FlE N h a n fs
  each : ∀ f ∈ fs, FlOk N h f
section
variable {N M : Nat → Prop} {h h' : Heap} {a : Option Addr} {n : Nat} {fs : List Fl} {f : Fl}
theorem FlOk.upd (hf : FlOk N h f) (u : Upd N h h') : FlOk N h' f := ⟨hf.sl.upd u, hf.cap⟩
theorem FlOk.keep (hf : FlOk N h f) (k : Keep h.size h h') : FlOk N h' f := hf.upd (k.upd N)
theorem FlOk.turn (hf : FlOk N h f) (hM : ∀ q, q < h.size → M q → N q) : FlOk M h f := ⟨hf.sl.turn (by decide) hM, hf.cap⟩
theorem FsN.upd (hf : FsN N h a n fs) (u : Upd N h h') : FsN N h' a n fs := ⟨hf.sl.upd u, fun f hm => (hf.each f hm).upd u⟩
theorem FsN.keep (hf : FsN N h a n fs) (k : Keep h.size h h') : FsN N h' a n fs := hf.upd (k.upd N)
theorem FsN.turn (hf : FsN N h a n fs) (hM : ∀ q, q < h.size → M q → N q) : FsN M h a n fs := ⟨hf.sl.turn (by decide) hM, fun f hm => (hf.each f hm).turn hM⟩
theorem FsN.nil (N : Nat → Prop) (h : Heap) (a : Option Addr) : FsN N h a 0 [] := ⟨SlN.nil _ _ _, fun _ h => by cases h⟩
theorem FsN.len (hf : FsN N h a n fs) : fs.length = n := hf.sl.len
/-- a file in a row. -/
theorem FsN.row (hf : FsN N h a n fs) {i : Nat} (hx : fs[i]? = some f) : ∃ p, a = some p ∧ (∀ j v, (FlE.enc f)[j]? = some v → cell h ((p.add (i * 2)).add j) = some v) ∧ FlOk N h f := by
  obtain ⟨p, e, hp⟩ := hf.sl.row hx
  exact ⟨p, e, hp, hf.each f (List.mem_of_getElem? hx)⟩
end
end Go.Vc
end

section
set_option linter.unusedVariables false
set_option linter.unusedSimpArgs false
set_option maxRecDepth 100000
namespace Go.Proofs.YtbfolflejhkehaaGreatDoor
open Go Go.Vc Go.Proofs Go.Dk

theorem szSs : szOf Tryz.prog 28 = some 1 := by kernel_rfl
theorem app_ss : App Tryz.prog 28 9 StrE.sz 16 (.string ⟨#[]⟩) := ⟨by kernel_rfl, by kernel_rfl, by kernel_rfl, by kernel_rfl, rfl, by decide, by decide⟩
theorem bs_s (s : Str) : bsCells Tryz.prog 28 1 [(0, .string s)] = some (9, [Value.string s]) :=
  bs_one (v := .string s) app_ss.und app_ss.size app_ss.zero app_ss.zlen (by decide) (by decide) rfl
/-- a row of one text. -/
theorem svc_row {h : Heap} {s : Str} {B0 : Nat} {K : Value → Heap → Prop} (hB : B0 ≤ h.size) (k : ∀ h', Keep h.size h h' → h'.size = h.size + 1 → Vc.Own StrE 9 B0 h' (some ⟨h.size, 0, none⟩) 1 1 [s] → K (.slice (some ⟨h.size, 0, none⟩) 1 1) h') :
    SVC Tryz.prog (Instr.buildSlice 28 1 (Array.mk [(0, .string s)])) h K :=
  svc_buildSlice (bs_s s) (k _ (keep_push _ _) (by simp) ⟨rfl, Nat.le_refl _, .inr ⟨h.size, _, rfl, hB, push_at _ _, rfl, [], rfl⟩⟩)
end Go.Proofs.YtbfolflejhkehaaGreatDoor
end

section
set_option linter.unusedSimpArgs false
set_option linter.unusedVariables false
namespace Go.Vc
open Go

section
variable {α : Type} {E : Enc α}
theorem first_sl {P : Program} {w : World} {b : Option Addr} {m c2 : Nat} {ys : List α} (hpos : 0 < E.sz) (hs : Sl E w.heap b m ys) : (Builtin.firstCells E.sz m (.slice b m c2)).run P w = .ok (ys.flatMap E.enc).toArray w := by
  have hysl : (ys.flatMap E.enc).length = m * E.sz := by rw [flat_len, hs.1]
  rcases hs.2 with rfl | ⟨p, rfl, hp⟩
  · have hm : m = 0 := by have := hs.1; simpa using this.symm
    subst hm
    cases b <;> simp [Builtin.firstCells, loadCells, loadCellsFrom]
  · simp only [Builtin.firstCells]
    refine run_loadCells hysl fun j v hv => ?_
    have hj : j < m * E.sz := by rw [← hysl]; exact (List.getElem?_eq_some_iff.1 hv).1
    have hi : j / E.sz < ys.length := by rw [hs.1]; exact Nat.div_lt_of_lt_mul (by rw [Nat.mul_comm]; exact hj)
    have hr : j % E.sz < E.sz := Nat.mod_lt _ hpos
    have hx : ys[j / E.sz]? = some ys[j / E.sz] := List.getElem?_eq_getElem hi
    have hlen := E.len ys[j / E.sz]
    have hvj : (E.enc ys[j / E.sz])[j % E.sz]? = some ((E.enc ys[j / E.sz])[j % E.sz]'(by omega)) := List.getElem?_eq_getElem (by omega)
    have hf := flat_get ys hx hvj
    rw [Nat.mul_comm, Nat.div_add_mod] at hf
    rw [hv] at hf
    have := hp _ _ hx _ _ hvj
    rw [Nat.mul_comm, Nat.div_add_mod] at this
    rw [this, ← hf]
/-- what is appended does not fit: a new block, whatever the slice was. -/
theorem svc_append_grow {P : Program} {T T2 e : TypeId} {bytes : Nat} {z : Value} {B : Nat} {h : Heap} {a : Option Addr} {n c m : Nat} {xs ys : List α} {v2 : Value} {ty : TypeId} {K : Value → Heap → Prop}
    (hA : App P T e E.sz bytes z) {d2 : TypeDesc} (hu2 : P.underlying T2 = some d2) (hd2 : (∃ e2, d2 = .slice e2) ∨ d2 = .string) (hx : Sl E h a n xs) (hB : B ≤ h.size) (hgrow : c < n + m) (hnc : n ≤ c)
    (hlen : ∀ w : World, (Builtin.lenOf v2).run P w = .ok m w) (hys : ys.length = m) (hread : ∀ w : World, w.heap = h → (Builtin.firstCells E.sz m v2).run P w = .ok (ys.flatMap E.enc).toArray w)
    (hroom : (4 * (n + m) + 192) * bytes ≤ 2 ^ 48)
    (k : ∀ c' h', Vc.Own E e B h' (some ⟨h.size, 0, none⟩) (n + m) c' (xs ++ ys) → Keep h.size h h' → h'.size = h.size + 1 → K (.slice (some ⟨h.size, 0, none⟩) (n + m) c') h') :
    SVC P (Builtin.append_ #[T, T2] ty #[.slice a n c, v2]) h K := by
  refine ⟨fun w hw => ?_⟩
  subst hw
  obtain ⟨hu, hsz, hby, hze, hzl, hpos, hbpos⟩ := hA
  have hsizeOf := fun w : World => run_szOf (P := P) hsz w
  have hti : ∀ w : World, ∃ i, P.info? e = some i ∧ (typeInfo e).run P w = .ok i w ∧ i.bytes = bytes ∧ i.zero = some z := fun w => by
    cases hi : P.info? e with
    | none => simp [hi] at hby
    | some i => simp [hi] at hby hze; exact ⟨i, rfl, by simp [typeInfo, hi], hby, hze⟩
  have hzero : ∀ w : World, (zeroValue e).run P w = .ok z w := fun w => by
    obtain ⟨i, h1, h2, h3, h4⟩ := hti w
    simp [zeroValue, h2, h4]
  have hxl := hx.1
  obtain ⟨inf, i1, i2, i3, i4⟩ := hti w
  have hcap := nextslicecap_le (n + m) c (by omega)
  have hle : Builtin.nextslicecap (n + m) c * bytes ≤ 2 ^ 48 := Nat.le_trans (Nat.mul_le_mul_right _ hcap) hroom
  have hold : ∀ w' : World, w'.heap = w.heap → (Builtin.firstCells E.sz n (.slice a n c)).run P w' = .ok (xs.flatMap E.enc).toArray w' := fun w' hw' => first_sl hpos (by rw [hw']; exact hx)
  let q : Question := .appendCap (n + m) c e
  let cap := q.cut (w.tape w.drawn q)
  let wd : World := { w with drawn := w.drawn + 1 }
  have hch : (choose q).run P w = .ok cap wd := rfl
  have hcge : n + m ≤ cap := by show n + m ≤ (n + m) + _; omega
  have hzlen : (Builtin.zeroCells z.cells (cap - (n + m))).size = (cap - (n + m)) * E.sz := by simp [Builtin.zeroCells, hzl]
  have hfit : ¬ n + m ≤ c := by omega
  refine ⟨.slice (some ⟨w.heap.size, 0, none⟩) (n + m) cap, { wd with heap := w.heap.push (.cells ((xs.flatMap E.enc).toArray ++ (ys.flatMap E.enc).toArray ++ Builtin.zeroCells z.cells (cap - (n + m))) e) }, ?_, Sane.push rfl, ?_⟩
  · have hbz : inf.bytes = bytes := i3
    have g1 : ∀ w' : World, (typeInfo e).run P w' = .ok inf w' := fun w' => by
      obtain ⟨i', j1, j2, _, _⟩ := hti w'
      rw [i1] at j1; cases j1; exact j2
    have hle' : ¬ (281474976710656 < Builtin.nextslicecap (n + m) c * inf.bytes) := by rw [hbz]; omega
    have hnb : inf.bytes ≠ 0 := by omega
    have hforced : (Question.appendCap (n + m) c e).forced = false := rfl
    have hold' := hold w.drew rfl
    have hread2 := hread w.drew rfl
    rcases hd2 with ⟨e2, rfl⟩ | rfl
    · simp [Builtin.append_, run_underlying hu, run_underlying hu2, hsizeOf, hlen, hfit, g1, hle', hnb, hforced, hold', hread2, hzero, newRow]
      refine ⟨rfl, ?_⟩
      show ({ w with heap := _, drawn := _ } : World) = _
      congr 2
      simp only [cap, q, ← Array.append_assoc, List.append_toArray]
    · simp [Builtin.append_, run_underlying hu, run_underlying hu2, hsizeOf, hlen, hfit, g1, hle', hnb, hforced, hold', hread2, hzero, newRow]
      refine ⟨rfl, ?_⟩
      show ({ w with heap := _, drawn := _ } : World) = _
      congr 2
      simp only [cap, q, ← Array.append_assoc, List.append_toArray]
  · have hsz' : ((xs.flatMap E.enc).toArray ++ (ys.flatMap E.enc).toArray ++ Builtin.zeroCells z.cells (cap - (n + m))).size = cap * E.sz := by
      simp only [Array.size_append, hzlen, List.size_toArray, flat_len, hxl, hys]
      rw [← Nat.add_mul, ← Nat.add_mul, Nat.add_sub_cancel' hcge]
    refine k _ _ ⟨by simp [hxl, hys], hcge, .inr ⟨w.heap.size, _, rfl, hB, push_at _ _, hsz', (Builtin.zeroCells z.cells (cap - (n + m))).toList, ?_⟩⟩ (Keep.push w.heap.size w.heap _ (Nat.le_refl _)) (by simp)
    simp [List.flatMap_append]
end
theorem len_str {P : Program} (s : ByteArray) (w : World) : (Builtin.lenOf (.string s)).run P w = .ok s.size w := rfl
theorem first_str {P : Program} (s : ByteArray) (w : World) : (Builtin.firstCells ByteE.sz s.size (.string s)).run P w = .ok ((bytesL s).flatMap ByteE.enc).toArray w := by
  have h1 : s.extract 0 s.size = s := by apply ByteArray.ext; simp
  have h2 : (s.data.map fun b => Value.int .u8 b.toNat) = ((bytesL s).flatMap ByteE.enc).toArray := by
    apply Array.toList_inj.1
    rw [Array.toList_map]
    show s.data.toList.map _ = (s.data.toList.flatMap ByteE.enc)
    generalize s.data.toList = l
    induction l with
    | nil => rfl
    | cons a l ih => rw [List.flatMap_cons, ← ih]; rfl
  show Result.ok ((s.extract 0 s.size).data.map fun b => Value.int .u8 b.toNat) w = _
  rw [h1, h2]
/-- a text appended to bytes of the call's own. -/
theorem svc_append_str {P : Program} {T T2 e : TypeId} {z : Value} {B : Nat} {h : Heap} {a : Option Addr} {n c : Nat} {xs : List UInt8} {s : ByteArray} {ty : TypeId} {K : Value → Heap → Prop}
    (hA : App P T e ByteE.sz 1 z) (hu2 : P.underlying T2 = some .string) (ho : Vc.Own ByteE e B h a n c xs) (hB : B ≤ h.size) (hroom : (4 * (n + s.size) + 192) * 1 ≤ 2 ^ 48)
    (k : ∀ a' c' h', Vc.Own ByteE e B h' a' (n + s.size) c' (xs ++ bytesL s) → Upd (blk a) h h' → (∀ i, blk a' i → blk a i ∨ i = h.size) → K (.slice a' (n + s.size) c') h') :
    SVC P (Builtin.append_ #[T, T2] ty #[.slice a n c, .string s]) h K := by
  have hys : (bytesL s).length = s.size := by show s.data.toList.length = s.data.size; rw [Array.length_toList]
  by_cases hfit : n + s.size ≤ c
  · refine ⟨fun w hw => ?_⟩
    subst hw
    have hsizeOf := fun w : World => run_szOf (P := P) hA.size w
    have hread := first_str (P := P) s w
    have hone : ∀ v ∈ (bytesL s).flatMap ByteE.enc, (∀ c, v ≠ .agg c) ∧ (∀ c, v ≠ .tuple c) := fun v hv => by
      obtain ⟨x, _, hx⟩ := List.mem_flatMap.1 hv
      exact ByteE.one x v hx
    have hysl : ((bytesL s).flatMap ByteE.enc).length = s.size := by rw [flat_len, hys]; exact Nat.mul_one _
    have hl := ho.1
    rcases ho.2.2 with ⟨rfl, rfl⟩ | ⟨bb, cells, rfl, hBb, hbb, hcs, rest, hrest⟩
    · have hm : s.size = 0 := by omega
      have hn : n = 0 := by omega
      subst hn
      have hxs : xs = [] := List.eq_nil_of_length_eq_zero hl
      have hys0 : bytesL s = [] := List.eq_nil_of_length_eq_zero (by omega)
      refine ⟨.slice none (0 + s.size) 0, w, ?_, Sane.refl w, k _ _ _ ?_ (Upd.refl _ _) (fun i hi => .inl hi)⟩
      · have hr0 := hread
        rw [hm] at hr0
        simp [Builtin.append_, run_underlying hA.und, run_underlying hu2, hsizeOf, len_str, hm]
        rw [hr0]; rfl
      · rw [hxs, hys0, hm]; exact ⟨rfl, Nat.le_refl _, .inl ⟨rfl, rfl⟩⟩
    · have hxl : (xs.flatMap ByteE.enc).length = n := by rw [flat_len, hl]; exact Nat.mul_one _
      have hcl : cells.toList.length = cells.size := by simp
      have hcs' : cells.size = c := by rw [hcs]; exact Nat.mul_one _
      have hrl : rest.length = cells.size - n := by
        have := congrArg List.length hrest
        rw [hcl, List.length_append, hxl] at this; omega
      obtain ⟨w', cells', h1, h2, h3, h4, h5, h6, h7⟩ := run_storeCells (P := P) bb e ((bytesL s).flatMap ByteE.enc) n cells w 0 hbb (by rw [hysl]; omega) hone
      refine ⟨_, w', ?_, h2, k _ _ _ ⟨by simp [hl, hys], hfit, .inr ⟨bb, cells', rfl, hBb, h4, by rw [h5]; exact hcs, rest.drop ((bytesL s).flatMap ByteE.enc).length, ?_⟩⟩
        ⟨by rw [h3]; exact Nat.le_refl _, fun i hi hs => h7 i fun e => hs ⟨_, rfl, e.symm⟩⟩ (fun i hi => .inl hi)⟩
      · have e1 : ByteE.sz = 1 := rfl
        have hr1 := hread
        rw [e1] at hr1
        simp [Builtin.append_, run_underlying hA.und, run_underlying hu2, hsizeOf, len_str, hfit, e1, Addr.add_row]
        rw [hr1]
        simp [h1]
      · rw [h6, hrest, Nat.add_zero, ← hxl, putL_prefix _ _ _ (by rw [hysl, hrl]; omega), List.flatMap_append]
  · refine svc_append_grow hA hu2 (.inr rfl) ho.sl hB (by omega) ho.2.1 (len_str s) hys (fun w _ => first_str s w) hroom fun c' h' o kk ss => k _ c' h' o (kk.upd _) fun i ⟨p, e, hp⟩ => .inr (by cases e; exact hp.symm)
end Go.Vc
end

section
set_option linter.unusedSimpArgs false
set_option linter.unusedVariables false
namespace Go.Kv
open Go Go.Vc Go.Dk
abbrev Ps (ν : Type) := List (Str × ν)
section
variable {ν : Type}
end
/-- a write. -/
structure Wr where
  key : Str
  val : Str
  gone : Bool
  deriving DecidableEq
instance : Inhabited Wr := ⟨⟨⟨#[]⟩, ⟨#[]⟩, false⟩⟩
/-- the document's way: what comes of the pairs that are left. -/
def rr (k v : Str) : Bool → Ps Str → Ps Str
  | d, [] => if d then [] else [(k, v)]
  | d, p :: l => (if !d && !lt p.1 k then [(k, v)] else []) ++ (if p.1 = k then [] else [p]) ++ rr k v (d || !lt p.1 k) l
end Go.Kv
end

section
set_option linter.unusedVariables false
set_option linter.unusedSimpArgs false
namespace Go.Sc
open Go Go.Vc Go.Dk Go.Kv

/-- what stands between a byte. -/
def splitL (c : UInt8) : List UInt8 → List (List UInt8)
  | [] => [[]]
  | b :: l => if b = c then [] :: splitL c l else match splitL c l with
    | [] => [[b]]
    | x :: xs => (b :: x) :: xs
/-- a beginning more of the first piece. -/
def glue (p : List UInt8) : List (List UInt8) → List (List UInt8)
  | [] => [p]
  | x :: xs => (p ++ x) :: xs
theorem splitL_eq {c : UInt8} {l : List UInt8} : splitL c (c :: l) = [] :: splitL c l := by
  show (if c = c then _ else _) = _
  rw [if_pos rfl]
theorem splitL_ne {c b : UInt8} {l : List UInt8} (h : b ≠ c) : splitL c (b :: l) = glue [b] (splitL c l) := by
  show (if b = c then _ else _) = _
  rw [if_neg h]
  cases splitL c l <;> rfl
theorem glue_nil {c : UInt8} : ∀ {l : List UInt8}, glue [] (splitL c l) = splitL c l
  | [] => rfl
  | b :: l => by
    by_cases h : b = c
    · subst h; rw [splitL_eq]; rfl
    · rw [splitL_ne h]
      cases splitL c l <;> rfl
theorem glue_glue (p q : List UInt8) (L : List (List UInt8)) : glue p (glue q L) = glue (p ++ q) L := by
  cases L with
  | nil => rfl
  | cons x xs => show ((p ++ (q ++ x)) :: xs) = ((p ++ q) ++ x) :: xs; rw [List.append_assoc]
theorem splitL_pos (c : UInt8) (l : List UInt8) : splitL c l ≠ [] := by
  cases l with
  | nil => intro h; cases h
  | cons b l =>
    by_cases h : b = c
    · subst h; rw [splitL_eq]; intro h; cases h
    · rw [splitL_ne h]; cases splitL c l <;> (intro h; cases h)
theorem index_cons_eq (c : UInt8) (l : List UInt8) : Lib.index (c :: l) [c] = 0 := by
  show (if List.isPrefixOf [c] (c :: l) = true then (0 : Int) else _) = 0
  rw [if_pos (by simp [List.isPrefixOf])]
theorem index_cons_ne {c b : UInt8} (h : b ≠ c) (l : List UInt8) : Lib.index (b :: l) [c] = if Lib.index l [c] == -1 then -1 else Lib.index l [c] + 1 := by
  show (if List.isPrefixOf [c] (b :: l) = true then (0 : Int) else _) = _
  rw [if_neg (by simp [List.isPrefixOf]; exact fun e => h e.symm)]
/-- the library's cut at all places is this. -/
theorem split_lib (c : UInt8) : ∀ l : List UInt8, Lib.splitK [c] 0 (Lib.count l [c]) l = splitL c l
  | [] => by
    have : Lib.count [] [c] = 0 := by rw [Lib.count_one]; rfl
    rw [this]; rfl
  | b :: l => by
    have ih := split_lib c l
    by_cases h : b = c
    · subst h
      rw [Lib.count_cons_eq, Nat.add_comm, splitL_eq]
      unfold Lib.splitK
      rw [index_cons_eq, if_neg (by decide), ← ih]
      rfl
    · rw [Lib.count_cons_ne b c l h, splitL_ne h, ← ih]
      cases hk : Lib.count l [c] with
      | zero => rfl
      | succ k =>
        unfold Lib.splitK
        rw [index_cons_ne h]
        rcases Lib.index_spec l [c] with ⟨h1, _⟩ | ⟨i, h1, _⟩
        · rw [Lib.count_miss h1] at hk; cases hk
        · rw [h1]
          have e1 : (((i : Nat) : Int) == -1) = false := by rw [beq_eq_false_iff_ne]; omega
          rw [e1]
          have e0 : (if (false : Bool) = true then (-1 : Int) else ((i : Nat) : Int) + 1) = ((i : Nat) : Int) + 1 := if_neg (by decide)
          have e2 : ((((i : Nat) : Int) + 1) == -1) = false := by rw [beq_eq_false_iff_ne]; omega
          rw [e0, e2, if_neg (by decide), if_neg (by decide)]
          have e3 : (((i : Nat) : Int) + 1).toNat = i + 1 := by omega
          rw [e3, Int.toNat_natCast]
          show _ = ([b] ++ _) :: _
          rw [show i + 1 + 0 = (i + 0) + 1 from rfl, List.take_succ_cons, show i + 1 + [c].length = (i + [c].length) + 1 from rfl, List.drop_succ_cons]
          rfl
/-- pieces with a byte between. -/
def joinL (c : UInt8) : List (List UInt8) → List UInt8
  | [] => []
  | [x] => x
  | x :: y :: xs => x ++ c :: joinL c (y :: xs)
theorem split_piece {c : UInt8} : ∀ {x l : List UInt8}, c ∉ x → splitL c (x ++ l) = glue x (splitL c l)
  | [], l, _ => by rw [List.nil_append, glue_nil]
  | b :: x, l, h => by
    have hb : b ≠ c := fun e => h (by rw [e]; exact List.mem_cons_self)
    have hx : c ∉ x := fun e => h (List.mem_cons_of_mem _ e)
    rw [List.cons_append, splitL_ne hb, split_piece hx, glue_glue]
    rfl
theorem split_one {c : UInt8} {x : List UInt8} (h : c ∉ x) : splitL c x = [x] := by
  have := split_piece (l := []) h
  rw [List.append_nil] at this
  rw [this]
  show [x ++ []] = [x]
  rw [List.append_nil]
theorem split_line {c : UInt8} {x l : List UInt8} (h : c ∉ x) : splitL c (x ++ c :: l) = x :: splitL c l := by
  rw [split_piece h, splitL_eq]
  show (x ++ []) :: _ = _
  rw [List.append_nil]
theorem split_join {c : UInt8} : ∀ {L : List (List UInt8)}, L ≠ [] → (∀ x ∈ L, c ∉ x) → splitL c (joinL c L) = L
  | [], h, _ => absurd rfl h
  | [x], _, h => split_one (h x List.mem_cons_self)
  | x :: y :: xs, _, h => by
    show splitL c (x ++ c :: joinL c (y :: xs)) = _
    rw [split_line (h x List.mem_cons_self), split_join (fun e => by cases e) fun z hz => h z (List.mem_cons_of_mem _ hz)]
/-- pieces with a byte behind each. -/
def termL (c : UInt8) (L : List (List UInt8)) : List UInt8 := L.flatMap fun x => x ++ [c]
theorem split_term {c : UInt8} : ∀ {L : List (List UInt8)}, (∀ x ∈ L, c ∉ x) → splitL c (termL c L) = L ++ [[]]
  | [], _ => rfl
  | x :: xs, h => by
    have e : termL c (x :: xs) = x ++ c :: termL c xs := by
      unfold termL
      rw [List.flatMap_cons, List.append_assoc]; rfl
    rw [e, split_line (h x List.mem_cons_self), split_term fun z hz => h z (List.mem_cons_of_mem _ hz)]
    rfl
/-- the number that Atoi gives, whatever the error. -/
def atoiV (l : List UInt8) : Int := match Lib.atoiAll l with
  | .ok v => v
  | .range => Lib.atoiSat l
  | _ => 0
/-- a word that is a number as a script has it. -/
def numOk (l : List UInt8) : Bool := match Lib.atoiAll l with
  | .ok v => decide (Lib.itoa v = l)
  | _ => false
theorem itoa_zero : Lib.itoa 0 = [48] := by decide +kernel
theorem itoa_max : Lib.itoa 9223372036854775807 = [57, 50, 50, 51, 51, 55, 50, 48, 51, 54, 56, 53, 52, 55, 55, 53, 56, 48, 55] := by decide +kernel
theorem itoa_min : Lib.itoa (-9223372036854775808) = [45, 57, 50, 50, 51, 51, 55, 50, 48, 51, 54, 56, 53, 52, 55, 55, 53, 56, 48, 56] := by decide +kernel
/-- whether the error is looked at or not. -/
theorem numOk_ref (l : List UInt8) : decide (Lib.itoa (atoiV l) = l) = numOk l := by
  unfold numOk atoiV
  cases h : Lib.atoiAll l with
  | ok v => rfl
  | range =>
    refine decide_eq_false fun e => ?_
    dsimp only at e
    unfold Lib.atoiSat at e
    split at e
    · rw [itoa_min] at e
      rw [← e] at h
      exact absurd h (by decide +kernel)
    · rw [itoa_max] at e
      rw [← e] at h
      exact absurd h (by decide +kernel)
  | _ =>
    refine decide_eq_false fun e => ?_
    dsimp only at e
    rw [itoa_zero] at e
    rw [← e] at h
    exact absurd h (by decide +kernel)
end Go.Sc
end

section
set_option linter.unusedVariables false
set_option linter.unusedSimpArgs false
namespace Go.Sc
open Go Go.Vc Go.Dk Go.Kv

/-- how many numbers a word has, and how many texts. -/
def shapeP (w : List UInt8) : Option (Nat × Nat) :=
  if w = [108, 105, 115, 116] then some (0, 0) else          -- list
  if w = [115, 121, 110, 99] then some (0, 0) else           -- sync
  if w = [111, 110] then some (0, 0) else                    -- on
  if w = [115, 116, 101, 112] then some (0, 0) else          -- step
  if w = [110, 117, 109] then some (0, 0) else               -- num
  if w = [111, 102, 102] then some (1, 0) else               -- off
  if w = [114, 117, 110] then some (1, 0) else               -- run
  if w = [97, 114, 109] then some (2, 0) else                -- arm
  if w = [99, 108, 111, 110, 101] then some (2, 0) else      -- clone
  if w = [111, 112, 101, 110] then some (3, 0) else          -- open
  if w = [100, 114, 111, 112] then some (0, 1) else          -- drop
  if w = [100, 101, 108] then some (0, 2) else               -- del
  if w = [109, 101, 114, 103, 101] then some (0, 2) else     -- merge
  if w = [103, 101, 116] then some (0, 2) else               -- get
  if w = [100, 105, 102, 102] then some (0, 2) else          -- diff
  if w = [112, 117, 116] then some (0, 3) else               -- put
  if w = [98, 114, 97, 110, 99, 104] then some (1, 1) else   -- branch
  if w = [108, 111, 103] then some (1, 1) else               -- log
  if w = [114, 101, 97, 100] then some (1, 2) else none      -- read
theorem ite_some {c : Prop} [Decidable c] {a x : Nat × Nat} {r : Option (Nat × Nat)} {Q : Nat × Nat → Prop} (ha : Q a) (hr : r = some x → Q x) (h : (if c then some a else r) = some x) : Q x := by
  by_cases e : c
  · rw [if_pos e] at h; cases h; exact ha
  · rw [if_neg e] at h; exact hr h
theorem shapeP_le {w : List UInt8} {k t : Nat} (h : shapeP w = some (k, t)) : k ≤ 3 ∧ t ≤ 3 := by
  unfold shapeP at h
  iterate 19 (revert h; refine ite_some (Q := fun p => p.1 ≤ 3 ∧ p.2 ≤ 3) (by decide) fun h => ?_)
  cases h
/-- a line's words. -/
def wordsP (l : List UInt8) : List (List UInt8) := splitL 32 l
/-- is a line a command? -/
def cmdP (l : List UInt8) : Bool := match shapeP ((wordsP l).headD []) with
  | none => false
  | some (k, t) => decide ((wordsP l).length = 1 + k + t) && (((wordsP l).drop 1).take k).all numOk
/-- the number of the first line that is no command, or is the command behind 512. -/
def faultP : List (List UInt8) → Nat → Nat → Option Nat
  | [], _, _ => none
  | l :: ls, i, n => if l = [] then faultP ls (i + 1) n else if cmdP l = false ∨ n = 512 then some (i + 1) else faultP ls (i + 1) (n + 1)
def cmdsP (ls : List (List UInt8)) : List (List UInt8) := ls.filter fun l => decide (l ≠ [])
theorem faultP_app : ∀ (xs ys : List (List UInt8)) (i n : Nat), faultP xs i n = none → faultP (xs ++ ys) i n = faultP ys (i + xs.length) (n + (cmdsP xs).length)
  | [], ys, i, n, _ => rfl
  | l :: xs, ys, i, n, h => by
    have hh : faultP (l :: xs) i n = if l = [] then faultP xs (i + 1) n else if cmdP l = false ∨ n = 512 then some (i + 1) else faultP xs (i + 1) (n + 1) := rfl
    show (if l = [] then faultP (xs ++ ys) (i + 1) n else if cmdP l = false ∨ n = 512 then some (i + 1) else faultP (xs ++ ys) (i + 1) (n + 1)) = _
    rw [hh] at h
    have hc : cmdsP (l :: xs) = if l = [] then cmdsP xs else l :: cmdsP xs := by
      unfold cmdsP
      rw [List.filter_cons]
      by_cases e : l = [] <;> simp [e]
    rw [hc, List.length_cons]
    by_cases e : l = []
    · rw [if_pos e] at h ⊢
      rw [if_pos e, faultP_app xs ys _ _ h]
      congr 1; omega
    · rw [if_neg e] at h ⊢
      rw [if_neg e]
      by_cases e2 : cmdP l = false ∨ n = 512
      · rw [if_pos e2] at h; cases h
      · rw [if_neg e2] at h ⊢
        rw [faultP_app xs ys _ _ h, List.length_cons]
        congr 1 <;> omega
theorem faultP_take : ∀ (xs : List (List UInt8)) (k i n : Nat), faultP xs i n = none → faultP (xs.take k) i n = none
  | [], k, i, n, _ => by rw [List.take_nil]; rfl
  | l :: xs, 0, i, n, _ => rfl
  | l :: xs, k + 1, i, n, h => by
    have hh : faultP (l :: xs) i n = if l = [] then faultP xs (i + 1) n else if cmdP l = false ∨ n = 512 then some (i + 1) else faultP xs (i + 1) (n + 1) := rfl
    rw [hh] at h
    show (if l = [] then faultP (xs.take k) (i + 1) n else if cmdP l = false ∨ n = 512 then some (i + 1) else faultP (xs.take k) (i + 1) (n + 1)) = none
    by_cases e : l = []
    · rw [if_pos e] at h ⊢; exact faultP_take xs k _ _ h
    · rw [if_neg e] at h ⊢
      by_cases e2 : cmdP l = false ∨ n = 512
      · rw [if_pos e2] at h; cases h
      · rw [if_neg e2] at h ⊢; exact faultP_take xs k _ _ h
/-- a line that is no command, put behind lines that are commands, is told by its number. -/
theorem fault_put {xs ys : List (List UInt8)} {odd : List UInt8} (hx : faultP xs 0 0 = none) (ho : odd ≠ []) (hc : cmdP odd = false) : faultP (xs ++ odd :: ys) 0 0 = some (xs.length + 1) := by
  rw [faultP_app xs _ 0 0 hx]
  show (if odd = [] then _ else if cmdP odd = false ∨ _ then some (0 + xs.length + 1) else _) = _
  rw [if_neg ho, if_pos (.inl hc), Nat.zero_add]
/-- so many commands, each behind a line feed. -/
theorem fault_many {w : List UInt8} (hw : w ≠ []) (hc : cmdP w = true) : ∀ (k i n : Nat), n ≤ 512 → faultP (List.replicate k w) i n = if n + k ≤ 512 then none else some (i + (512 - n) + 1)
  | 0, i, n, hn => by rw [if_pos (by omega)]; rfl
  | k + 1, i, n, hn => by
    rw [List.replicate_succ]
    show (if w = [] then _ else if cmdP w = false ∨ n = 512 then some (i + 1) else faultP (List.replicate k w) (i + 1) (n + 1)) = _
    rw [if_neg hw]
    by_cases e : n = 512
    · rw [if_pos (.inr e), if_neg (by omega), e]
    · rw [if_neg (by rw [hc]; simp [e]), fault_many hw hc k (i + 1) (n + 1) (by omega)]
      by_cases e2 : n + 1 + k ≤ 512
      · rw [if_pos e2, if_pos (by omega)]
      · rw [if_neg e2, if_neg (by omega)]
        congr 1; omega
theorem fault_blank : ∀ (k i n : Nat), faultP (List.replicate k []) i n = none
  | 0, _, _ => rfl
  | k + 1, i, n => by
    rw [List.replicate_succ]
    show (if ([] : List UInt8) = [] then faultP (List.replicate k []) (i + 1) n else _) = none
    rw [if_pos rfl]; exact fault_blank k _ _
/-- the odd lines of law 25. -/
def odds : List (List UInt8) := [[119, 104, 97, 116], [32], [110, 117, 109, 32], [114, 117, 110], [97, 114, 109, 32, 49], [108, 111, 103, 32, 48, 49, 32, 109, 97, 105, 110], [112, 117, 116, 32, 109, 97, 105, 110, 32, 97],
  [114, 117, 110, 32, 57, 50, 50, 51, 51, 55, 50, 48, 51, 54, 56, 53, 52, 55, 55, 53, 56, 48, 56]]
theorem odds_bad : ∀ w ∈ odds, w ≠ [] ∧ cmdP w = false ∧ (10 : UInt8) ∉ w := by decide +kernel
end Go.Sc
end

section
set_option linter.unusedVariables false
set_option linter.unusedSimpArgs false
namespace Go.Sc
open Go Go.Vc Go.Dk Go.Kv

def strL (l : List UInt8) : Str := ⟨l.toArray⟩
theorem bl_strL (l : List UInt8) : bytesL (strL l) = l := rfl
theorem strL_bl (s : Str) : strL (bytesL s) = s := rfl
theorem strL_len (l : List UInt8) : (strL l).size = l.length := by
  show l.toArray.size = l.length
  rw [List.size_toArray]
theorem bl_len (s : Str) : (bytesL s).length = s.size := by
  show s.data.toList.length = s.data.size
  rw [Array.length_toList]
theorem bl_app (a b : Str) : bytesL (a ++ b) = bytesL a ++ bytesL b := by
  show (a ++ b).data.toList = _
  rw [ByteArray.data_append, Array.toList_append]
/-- a text against the bytes of a literal. -/
theorem br_lit {s : Str} {l : List UInt8} {A B : Prop} (ha : bytesL s = l → A) (hb : bytesL s ≠ l → B) : br (s.toList == l) A B := by
  refine br_intro (fun e => ha ?_) (fun e => hb ?_)
  · rw [ByteArray.toList_eq] at e; exact eq_of_beq e
  · rw [ByteArray.toList_eq] at e; exact ne_of_beq_false e
/-- a text's pieces. -/
def splitS (c : UInt8) (s : Str) : List Str := (splitL c (bytesL s)).map strL
theorem splitS_bl (c : UInt8) (s : Str) : (splitS c s).map bytesL = splitL c (bytesL s) := by
  unfold splitS
  rw [List.map_map]
  have : bytesL ∘ strL = id := funext fun l => bl_strL l
  rw [this, List.map_id]
theorem splitS_len (c : UInt8) (s : Str) : (splitS c s).length = (splitL c (bytesL s)).length := by
  unfold splitS
  rw [List.length_map]
theorem splitS_get {c : UInt8} {s : Str} {i : Nat} {x : List UInt8} (h : (splitL c (bytesL s))[i]? = some x) : (splitS c s)[i]? = some (strL x) := by
  unfold splitS
  rw [List.getElem?_map, h]; rfl
theorem splitB_S (c : UInt8) (s : Str) : Lib.splitB ⟨#[c]⟩ 0 (Lib.countB s ⟨#[c]⟩) s = splitS c s := by
  have h := Lib.splitB_data ⟨#[c]⟩ 0 (Lib.countB s ⟨#[c]⟩) s
  have h3 : (Lib.splitB ⟨#[c]⟩ 0 (Lib.countB s ⟨#[c]⟩) s).map bytesL = splitL c (bytesL s) := h.trans (split_lib c _)
  unfold splitS
  rw [← h3, List.map_map]
  have : strL ∘ bytesL = id := funext fun l => strL_bl l
  rw [this, List.map_id]
theorem split_le {c : UInt8} : ∀ {l x : List UInt8}, x ∈ splitL c l → x.length ≤ l.length
  | [], x, h => by
    have : x = [] := by simpa [splitL] using h
    rw [this]; exact Nat.le_refl _
  | b :: l, x, h => by
    by_cases e : b = c
    · subst e
      rw [splitL_eq] at h
      rcases List.mem_cons.1 h with rfl | h
      · exact Nat.zero_le _
      · have := split_le h; rw [List.length_cons]; omega
    · rw [splitL_ne e] at h
      cases hs : splitL c l with
      | nil => exact absurd hs (splitL_pos c l)
      | cons y ys =>
        rw [hs] at h
        have hm : ∀ z ∈ y :: ys, z.length ≤ l.length := fun z hz => split_le (l := l) (by rw [hs]; exact hz)
        rcases List.mem_cons.1 h with rfl | h
        · have := hm y List.mem_cons_self
          show (y.length + 1) ≤ l.length + 1
          omega
        · have := hm x (List.mem_cons_of_mem _ h); rw [List.length_cons]; omega
theorem split_count {c : UInt8} : ∀ l : List UInt8, (splitL c l).length ≤ l.length + 1
  | [] => Nat.le_refl _
  | b :: l => by
    have ih := split_count (c := c) l
    by_cases e : b = c
    · subst e; rw [splitL_eq, List.length_cons, List.length_cons]; omega
    · rw [splitL_ne e]
      cases hs : splitL c l with
      | nil => exact absurd hs (splitL_pos c l)
      | cons y ys =>
        rw [hs] at ih
        show (ys.length + 1) ≤ _
        rw [List.length_cons] at ih ⊢; omega

/- a cut, step by step -/

def piece (L : List UInt8) (f i : Nat) : List UInt8 := (L.drop f).take (i - f)
theorem piece_self (L : List UInt8) (i : Nat) : piece L i i = [] := by
  unfold piece
  rw [Nat.sub_self, List.take_zero]
theorem piece_snoc {L : List UInt8} {f i : Nat} {b : UInt8} (hf : f ≤ i) (h : L[i]? = some b) : piece L f (i + 1) = piece L f i ++ [b] := by
  unfold piece
  rw [show i + 1 - f = (i - f) + 1 by omega, List.take_add_one, List.getElem?_drop, show f + (i - f) = i by omega, h]
  rfl
theorem ext_piece (s : Str) (f i : Nat) : s.extract f i = strL (piece (bytesL s) f i) := by
  apply ByteArray.ext
  apply Array.toList_inj.1
  rw [ByteArray.data_extract, Array.toList_extract, List.extract_eq_take_drop]; rfl
theorem sp_start (c : UInt8) (L : List UInt8) : glue (piece L 0 0) (splitL c (L.drop 0)) = splitL c L := by rw [piece_self, glue_nil, List.drop_zero]
theorem sp_end {c : UInt8} {L : List UInt8} {f i : Nat} (hi : L.length ≤ i) : glue (piece L f i) (splitL c (L.drop i)) = [piece L f i] := by
  rw [List.drop_of_length_le hi]
  show [piece L f i ++ []] = _
  rw [List.append_nil]
theorem sp_hit {c : UInt8} {L : List UInt8} {f i : Nat} (h : L[i]? = some c) : glue (piece L f i) (splitL c (L.drop i)) = piece L f i :: glue (piece L (i + 1) (i + 1)) (splitL c (L.drop (i + 1))) := by
  obtain ⟨hl, he⟩ := List.getElem?_eq_some_iff.1 h
  rw [List.drop_eq_getElem_cons hl, he, splitL_eq, piece_self, glue_nil]
  show (piece L f i ++ []) :: _ = _
  rw [List.append_nil]
theorem sp_miss {c b : UInt8} {L : List UInt8} {f i : Nat} (hf : f ≤ i) (h : L[i]? = some b) (hb : b ≠ c) : glue (piece L f i) (splitL c (L.drop i)) = glue (piece L f (i + 1)) (splitL c (L.drop (i + 1))) := by
  obtain ⟨hl, he⟩ := List.getElem?_eq_some_iff.1 h
  rw [List.drop_eq_getElem_cons hl, he, splitL_ne hb, glue_glue, piece_snoc hf h]
theorem byteAt_eq {s : Str} {i : Nat} (h : i < s.size) : ∃ b : UInt8, (bytesL s)[i]? = some b ∧ byteAt s (i : Int) = (b.toNat : Int) := by
  have hl : i < s.data.size := h
  refine ⟨s.data[i], ?_, ?_⟩
  · show s.data.toList[i]? = _
    rw [Array.getElem?_toList, Array.getElem?_eq_getElem hl]
  · unfold byteAt
    rw [Int.toNat_natCast]
    have e : s.data.getD i 0 = s.data[i] := by unfold Array.getD; rw [dif_pos hl]; rfl
    rw [e]
theorem u8_beq (a b : UInt8) : (((a.toNat : Nat) : Int) == ((b.toNat : Nat) : Int)) = decide (a = b) := by
  by_cases h : a = b
  · subst h; simp
  · rw [decide_eq_false h, beq_eq_false_iff_ne]
    intro e
    exact h (UInt8.toNat_inj.1 (by omega))

/- numbers among the words -/

theorem all_false {α : Type} {f : α → Bool} {L : List α} {j k : Nat} {x : α} (h : L[j]? = some x) (hj : j < k) (hx : f x = false) : (L.take k).all f = false := by
  rw [List.all_eq_false]
  refine ⟨x, ?_, by rw [hx]; decide⟩
  have : (L.take k)[j]? = some x := by rw [List.getElem?_take, if_pos hj]; exact h
  exact List.mem_of_getElem? this
theorem all_snoc {α : Type} {f : α → Bool} {L : List α} {j : Nat} {x : α} (h : L[j]? = some x) (ha : (L.take j).all f = true) (hx : f x = true) : (L.take (j + 1)).all f = true := by
  rw [List.take_add_one, h, List.all_append, ha]
  show (true && ([x].all f)) = true
  simp [hx]
def hdL (l : List UInt8) : List UInt8 := (wordsP l).headD []
theorem cmd_none {l : List UInt8} (h : shapeP (hdL l) = none) : cmdP l = false := by
  unfold cmdP
  have h : shapeP ((wordsP l).headD []) = none := h
  rw [h]
theorem cmd_some {l : List UInt8} {k t : Nat} (h : shapeP (hdL l) = some (k, t)) : cmdP l = (decide ((wordsP l).length = 1 + k + t) && (((wordsP l).drop 1).take k).all numOk) := by
  unfold cmdP
  have h : shapeP ((wordsP l).headD []) = some (k, t) := h
  rw [h]
theorem numOk_ok {l : List UInt8} {n : Int} (h : Lib.atoiAll l = .ok n) : numOk l = decide (Lib.itoa n = l) := by
  unfold numOk
  rw [h]
theorem numOk_no {l : List UInt8} (h : ∀ n, Lib.atoiAll l ≠ .ok n) : numOk l = false := by
  unfold numOk
  cases ha : Lib.atoiAll l with
  | ok n => exact absurd ha (h n)
  | _ => rfl
theorem atoiV_rng (l : List UInt8) : -9223372036854775808 ≤ atoiV l ∧ atoiV l ≤ 9223372036854775807 := by
  unfold atoiV
  cases ha : Lib.atoiAll l with
  | ok n => exact Lib.atoiAll_bounds ha
  | range => exact Lib.atoiSat_bounds l
  | _ => exact ⟨(by decide : (-9223372036854775808 : Int) ≤ 0), (by decide : (0 : Int) ≤ 9223372036854775807)⟩
theorem atoiV_ok {l : List UInt8} {n : Int} (h : Lib.atoiAll l = .ok n) : atoiV l = n := by
  unfold atoiV
  rw [h]

/- lines -/

theorem joinL_snoc {c : UInt8} : ∀ {xs : List (List UInt8)} {y : List UInt8}, xs ≠ [] → joinL c (xs ++ [y]) = joinL c xs ++ c :: y
  | [], y, h => absurd rfl h
  | [x], y, _ => rfl
  | x :: z :: xs, y, _ => by
    show x ++ c :: joinL c ((z :: xs) ++ [y]) = (x ++ c :: joinL c (z :: xs)) ++ c :: y
    rw [joinL_snoc (xs := z :: xs) (fun e => by cases e)]
    simp
theorem termL_snoc (c : UInt8) (X : List (List UInt8)) (y : List UInt8) : termL c (X ++ [y]) = termL c X ++ y ++ [c] := by
  unfold termL
  rw [List.flatMap_append]
  simp
theorem termL_cons (c : UInt8) (X : List (List UInt8)) (y : List UInt8) : termL c (y :: X) = y ++ [c] ++ termL c X := rfl
theorem termL_len {c : UInt8} : ∀ {L : List (List UInt8)}, L ≠ [] → (termL c L).length = (joinL c L).length + 1
  | [], h => absurd rfl h
  | [x], _ => by rw [termL_cons]; simp [termL, joinL]
  | x :: y :: xs, _ => by
    have ih := termL_len (c := c) (L := y :: xs) (fun e => by cases e)
    rw [termL_cons]
    show _ = (x ++ c :: joinL c (y :: xs)).length + 1
    rw [List.length_append, List.length_append, ih, List.length_append, List.length_cons]
    simp; omega
theorem termL_app (c : UInt8) (X Y : List (List UInt8)) : termL c (X ++ Y) = termL c X ++ termL c Y := by
  unfold termL
  rw [List.flatMap_append]
theorem termL_le {c : UInt8} {L : List (List UInt8)} {n : Nat} (h : (joinL c L).length ≤ n) : (termL c L).length ≤ n + 1 := by
  cases L with
  | nil => exact Nat.zero_le _
  | cons x xs => rw [termL_len (fun e => by cases e)]; omega
theorem take_snoc {α : Type} {L : List α} {i : Nat} {x : α} (h : L[i]? = some x) : L.take (i + 1) = L.take i ++ [x] := by rw [List.take_add_one, h]; rfl
/-- the first i steps of lines among which one is put. -/
def insAt (L : List (List UInt8)) (a : Nat) (o : List UInt8) (i : Nat) : List (List UInt8) := if i ≤ a then L.take i else L.take a ++ o :: (L.take i).drop a
section
variable {L : List (List UInt8)} {a i : Nat} {o x : List UInt8}
theorem ins_zero : insAt L a o 0 = [] := by
  unfold insAt
  rw [if_pos (Nat.zero_le _), List.take_zero]
theorem ins_lt (h : L[i]? = some x) (ha : i ≠ a) : insAt L a o (i + 1) = insAt L a o i ++ [x] := by
  have hl := (List.getElem?_eq_some_iff.1 h).1
  unfold insAt
  by_cases hi : i + 1 ≤ a
  · rw [if_pos hi, if_pos (by omega), take_snoc h]
  · rw [if_neg hi, if_neg (by omega), take_snoc h, List.drop_append_of_le_length (by rw [List.length_take]; omega)]
    simp
theorem ins_end (h : L.length ≤ i) (ha : i ≠ a) (hle : a ≤ L.length) : insAt L a o (i + 1) = insAt L a o i := by
  unfold insAt
  rw [if_neg (by omega), if_neg (by omega), List.take_of_length_le (i := i + 1) (by omega), List.take_of_length_le (i := i) h]
theorem ins_at_lt (h : L[a]? = some x) : insAt L a o (a + 1) = insAt L a o a ++ [o] ++ [x] := by
  have hl := (List.getElem?_eq_some_iff.1 h).1
  unfold insAt
  rw [if_neg (by omega), if_pos (Nat.le_refl _), take_snoc h, List.drop_append_of_le_length (by rw [List.length_take]; omega), List.drop_of_length_le (by rw [List.length_take]; omega)]
  simp
theorem ins_at_end (h : L.length = a) : insAt L a o (a + 1) = insAt L a o a ++ [o] := by
  unfold insAt
  rw [if_neg (by omega), if_pos (Nat.le_refl _), List.take_of_length_le (i := a + 1) (by omega), List.drop_of_length_le (by omega), List.take_of_length_le (by omega)]
theorem ins_all (hle : a ≤ L.length) : insAt L a o (L.length + 1) = L.take a ++ o :: L.drop a := by
  unfold insAt
  rw [if_neg (by omega), List.take_of_length_le (i := L.length + 1) (by omega)]
theorem ins_mono (hle : a ≤ L.length) (hi : i ≤ L.length + 1) : (termL 10 (insAt L a o i)).length ≤ (termL 10 L).length + o.length + 1 := by
  have ht : ∀ k, (termL 10 (L.take k)).length ≤ (termL 10 L).length := fun k => by
    have : termL 10 L = termL 10 (L.take k) ++ termL 10 (L.drop k) := by rw [← termL_app, List.take_append_drop]
    rw [this, List.length_append]; omega
  unfold insAt
  by_cases h : i ≤ a
  · rw [if_pos h]; have := ht i; omega
  · rw [if_neg h, termL_app, termL_cons]
    have e : L.take i = L.take a ++ (L.take i).drop a := by
      have h2 := List.take_append_drop a (L.take i)
      rw [List.take_take, Nat.min_eq_left (by omega)] at h2
      exact h2.symm
    have := ht i
    rw [e, termL_app, List.length_append] at this
    simp; omega
end
/-- so many line feeds. -/
theorem split_blank : ∀ n : Nat, splitL 10 (List.replicate n 10) = List.replicate (n + 1) []
  | 0 => rfl
  | n + 1 => by rw [List.replicate_succ, splitL_eq, split_blank n, List.replicate_succ (n := n + 1)]
def numW : List UInt8 := [110, 117, 109]
/-- so many lines 'num', each behind a line feed. -/
def nums (n : Nat) : List UInt8 := joinL 10 ([] :: List.replicate n numW)
theorem nums_succ (n : Nat) : nums (n + 1) = nums n ++ [10, 110, 117, 109] := by
  unfold nums
  rw [List.replicate_succ', ← List.cons_append, joinL_snoc (fun e => by cases e)]
  rfl
theorem nums_len : ∀ n : Nat, (nums n).length = 4 * n
  | 0 => rfl
  | n + 1 => by rw [nums_succ, List.length_append, nums_len n]; simp; omega
theorem nums_split (n : Nat) : splitL 10 (nums n) = [] :: List.replicate n numW := by
  unfold nums
  refine split_join (fun e => by cases e) fun x hx => ?_
  rcases List.mem_cons.1 hx with rfl | hx
  · exact fun h => by cases h
  · rw [List.eq_of_mem_replicate hx]; decide
theorem num_cmd : cmdP numW = true := by decide +kernel
theorem num_hd : hdL numW = numW := by decide +kernel
theorem nums_fault (n : Nat) : faultP ([] :: List.replicate n numW) 0 0 = if n ≤ 512 then none else some 514 := by
  show (if ([] : List UInt8) = [] then faultP (List.replicate n numW) 1 0 else _) = _
  rw [if_pos rfl, fault_many (by decide) num_cmd n 1 0 (by omega), Nat.zero_add]
theorem nums_cmds (n : Nat) : cmdsP ([] :: List.replicate n numW) = List.replicate n numW := by
  have h : decide (numW ≠ []) = true := by decide
  unfold cmdsP
  rw [List.filter_cons, if_neg (by decide), List.filter_replicate]
  rw [if_pos h]
theorem blank_cmds (n : Nat) : cmdsP (List.replicate n []) = [] := by
  unfold cmdsP
  rw [List.filter_replicate, if_neg (by decide)]
/-- what so many commands 'num' say. -/
def says (n : Nat) : List UInt8 := (List.replicate n [48, 10]).flatten
theorem says_succ (n : Nat) : says (n + 1) = says n ++ [48, 10] := by
  unfold says
  rw [List.replicate_succ', List.flatten_append]; rfl
theorem says_len : ∀ n : Nat, (says n).length = 2 * n
  | 0 => rfl
  | n + 1 => by rw [says_succ, List.length_append, says_len n]; simp; omega
/-- the lines of a joined text, or the one blank line of none: as to faults they are the lines. -/
theorem fault_join (L : List (List UInt8)) (h : ∀ x ∈ L, (10 : UInt8) ∉ x) (hf : faultP (splitL 10 (joinL 10 L)) 0 0 = none) : faultP L 0 0 = none := by
  cases L with
  | nil => rfl
  | cons x xs => rw [split_join (fun e => by cases e) h] at hf; exact hf
theorem fault_odd {L : List (List UInt8)} {a : Nat} {o : List UInt8} (h : ∀ x ∈ L, (10 : UInt8) ∉ x) (hf : faultP L 0 0 = none) (ha : a ≤ L.length) (ho : o ∈ odds) : faultP (splitL 10 (termL 10 (L.take a ++ o :: L.drop a))) 0 0 = some (a + 1) := by
  obtain ⟨o1, o2, o3⟩ := odds_bad o ho
  rw [split_term (fun x hx => ?_)]
  · rw [List.append_assoc]
    have := fault_put (xs := L.take a) (ys := L.drop a ++ [[]]) (odd := o) (faultP_take L a 0 0 hf) o1 o2
    rw [List.length_take, Nat.min_eq_left ha] at this
    exact this
  · rcases List.mem_append.1 hx with hx | hx
    · exact h x (List.mem_of_mem_take hx)
    · rcases List.mem_cons.1 hx with rfl | hx
      · exact o3
      · exact h x (List.mem_of_mem_drop hx)
end Go.Sc
end

section
set_option linter.unusedVariables false
set_option maxRecDepth 100000
namespace Go.Proofs.YtbfolflejhkehaaGreatDoor
open Go Go.Vc Go.Proofs

theorem vcScSay (p : Nat) (A : Option Addr) (n c : Nat) (h : Heap) (R : Value → Heap → Prop) :
    vcF Tryz.prog Tryz.f31 11 [] [] [.pointer (some ⟨p, 0, none⟩), .slice A n c] h R =
(∃ (p0 : Addr),
 some (Addr.mk p (0 : Nat) none) = some p0 ∧
 HC Tryz.prog (69 : Nat) (Array.mk [Value.slice A n c, Value.string (ByteArray.mk (Array.mk [(32 : UInt8)]))]) h fun (v1 : Value) (h2 : Heap) =>
 ∃ (s3 : ByteArray),
 v1 = Value.string s3 ∧
 (↑(s3.size + (1 : Nat)) : Int) ≤ IntKind.i64.max ∧
 HC Tryz.prog (68 : Nat) (Array.mk [Value.pointer (some (p0.add (3 : Nat))), Value.string (s3 ++ ByteArray.mk (Array.mk [(10 : UInt8)]))]) h2 fun (v4 : Value) (h5 : Heap) =>
 ∃ (n6 : Int), ∃ (v7 : Value), v4 = Value.tuple (Array.mk [Value.int IntKind.i64 n6, v7]) ∧ R (Value.tuple (Array.mk [])) h5) := by kernel_rfl

theorem vcScPlay (p : Nat) (s : ByteArray) (A : Option Addr) (n c : Nat) (B : Option Addr) (m d : Nat) (h : Heap) (R : Value → Heap → Prop) :
    vcF Tryz.prog Tryz.f12 275 [] [] [.pointer (some ⟨p, 0, none⟩), .agg #[.string s, .slice A n c, .slice B m d]] h R =
(∃ (s0 : ByteArray),
 Reads Tryz.prog (Instr.loadAt (9 : Nat) (Value.pointer (some (Addr.mk (Array.size h) (0 : Nat) none))))
 (Array.push h (Obj.cells (Array.mk [Value.string s, Value.slice A n c, Value.slice B m d]) (39 : Nat))) (Value.string s0) ∧
 br
 (s0.toList ==
 [(111 : UInt8), (112 : UInt8), (101 : UInt8), (110 : UInt8)])
 (∃ (a49 : Option Addr),
 ∃ (k50 : Nat),
 ∃ (k51 : Nat),
 Reads Tryz.prog (Instr.loadAt (37 : Nat) (Value.pointer (some ((Addr.mk (Array.size h) (0 : Nat) none).add (1 : Nat)))))
 (Array.push h (Obj.cells (Array.mk [Value.string s, Value.slice A n c, Value.slice B m d]) (39 : Nat))) (Value.slice a49 k50 k51) ∧
 ∃ (p52 : Addr),
 (a49 = some p52 ∧ (0 : Int) ≤ (0 : Int) ∧ (0 : Int) < (↑k50 : Int)) ∧
 ∃ (n53 : Int),
 Reads Tryz.prog (Instr.loadAt (3 : Nat) (Value.pointer (some p52))) (Array.push h (Obj.cells (Array.mk [Value.string s, Value.slice A n c, Value.slice B m d]) (39 : Nat)))
 (Value.int IntKind.i64 n53) ∧
 ∃ (a54 : Option Addr),
 ∃ (k55 : Nat),
 ∃ (k56 : Nat),
 Reads Tryz.prog (Instr.loadAt (37 : Nat) (Value.pointer (some ((Addr.mk (Array.size h) (0 : Nat) none).add (1 : Nat)))))
 (Array.push h (Obj.cells (Array.mk [Value.string s, Value.slice A n c, Value.slice B m d]) (39 : Nat))) (Value.slice a54 k55 k56) ∧
 ∃ (p57 : Addr),
 (a54 = some p57 ∧ (0 : Int) ≤ (1 : Int) ∧ (1 : Int) < (↑k55 : Int)) ∧
 ∃ (n58 : Int),
 Reads Tryz.prog (Instr.loadAt (3 : Nat) (Value.pointer (some (p57.add (1 : Nat)))))
 (Array.push h (Obj.cells (Array.mk [Value.string s, Value.slice A n c, Value.slice B m d]) (39 : Nat))) (Value.int IntKind.i64 n58) ∧
 ∃ (a59 : Option Addr),
 ∃ (k60 : Nat),
 ∃ (k61 : Nat),
 Reads Tryz.prog (Instr.loadAt (37 : Nat) (Value.pointer (some ((Addr.mk (Array.size h) (0 : Nat) none).add (1 : Nat)))))
 (Array.push h (Obj.cells (Array.mk [Value.string s, Value.slice A n c, Value.slice B m d]) (39 : Nat))) (Value.slice a59 k60 k61) ∧
 ∃ (p62 : Addr),
 (a59 = some p62 ∧ (0 : Int) ≤ (2 : Int) ∧ (2 : Int) < (↑k60 : Int)) ∧
 ∃ (n63 : Int),
 Reads Tryz.prog (Instr.loadAt (3 : Nat) (Value.pointer (some (p62.add (2 : Nat)))))
 (Array.push h (Obj.cells (Array.mk [Value.string s, Value.slice A n c, Value.slice B m d]) (39 : Nat))) (Value.int IntKind.i64 n63) ∧
 HC Tryz.prog (22 : Nat)
 (Array.mk [Value.pointer (some (Addr.mk p (0 : Nat) none)), Value.int IntKind.i64 n53, Value.int IntKind.i64 n58, Value.int IntKind.i64 n63])
 (Array.push h (Obj.cells (Array.mk [Value.string s, Value.slice A n c, Value.slice B m d]) (39 : Nat))) fun (v64 : Value) (h65 : Heap) =>
 ∃ (n66 : Int),
 v64 = Value.int IntKind.i64 n66 ∧
 HC Tryz.prog (21 : Nat) (Array.mk [Value.pointer (some (Addr.mk p (0 : Nat) none)), Value.int IntKind.i64 n66]) h65
 fun (v67 : Value) (h68 : Heap) => v67 = Value.tuple (Array.mk []) ∧ R (Value.tuple (Array.mk [])) h68)
 (br
 (s0.toList ==
 [(112 : UInt8), (117 : UInt8), (116 : UInt8)])
 (∃ (a99 : Option Addr),
 ∃ (k100 : Nat),
 ∃ (k101 : Nat),
 Reads Tryz.prog (Instr.loadAt (28 : Nat) (Value.pointer (some ((Addr.mk (Array.size h) (0 : Nat) none).add (2 : Nat)))))
 (Array.push h (Obj.cells (Array.mk [Value.string s, Value.slice A n c, Value.slice B m d]) (39 : Nat))) (Value.slice a99 k100 k101) ∧
 ∃ (p102 : Addr),
 (a99 = some p102 ∧ (0 : Int) ≤ (0 : Int) ∧ (0 : Int) < (↑k100 : Int)) ∧
 ∃ (s103 : ByteArray),
 Reads Tryz.prog (Instr.loadAt (9 : Nat) (Value.pointer (some p102))) (Array.push h (Obj.cells (Array.mk [Value.string s, Value.slice A n c, Value.slice B m d]) (39 : Nat)))
 (Value.string s103) ∧
 ∃ (a104 : Option Addr),
 ∃ (k105 : Nat),
 ∃ (k106 : Nat),
 Reads Tryz.prog (Instr.loadAt (28 : Nat) (Value.pointer (some ((Addr.mk (Array.size h) (0 : Nat) none).add (2 : Nat)))))
 (Array.push h (Obj.cells (Array.mk [Value.string s, Value.slice A n c, Value.slice B m d]) (39 : Nat))) (Value.slice a104 k105 k106) ∧
 ∃ (p107 : Addr),
 (a104 = some p107 ∧ (0 : Int) ≤ (1 : Int) ∧ (1 : Int) < (↑k105 : Int)) ∧
 ∃ (s108 : ByteArray),
 Reads Tryz.prog (Instr.loadAt (9 : Nat) (Value.pointer (some (p107.add (1 : Nat)))))
 (Array.push h (Obj.cells (Array.mk [Value.string s, Value.slice A n c, Value.slice B m d]) (39 : Nat))) (Value.string s108) ∧
 ∃ (a109 : Option Addr),
 ∃ (k110 : Nat),
 ∃ (k111 : Nat),
 Reads Tryz.prog (Instr.loadAt (28 : Nat) (Value.pointer (some ((Addr.mk (Array.size h) (0 : Nat) none).add (2 : Nat)))))
 (Array.push h (Obj.cells (Array.mk [Value.string s, Value.slice A n c, Value.slice B m d]) (39 : Nat))) (Value.slice a109 k110 k111) ∧
 ∃ (p112 : Addr),
 (a109 = some p112 ∧ (0 : Int) ≤ (2 : Int) ∧ (2 : Int) < (↑k110 : Int)) ∧
 ∃ (s113 : ByteArray),
 Reads Tryz.prog (Instr.loadAt (9 : Nat) (Value.pointer (some (p112.add (2 : Nat)))))
 (Array.push h (Obj.cells (Array.mk [Value.string s, Value.slice A n c, Value.slice B m d]) (39 : Nat))) (Value.string s113) ∧
 HC Tryz.prog (23 : Nat)
 (Array.mk
 [Value.pointer (some (Addr.mk p (0 : Nat) none)), Value.string s103,
 Value.agg (Array.mk [Value.string s108, Value.string s113, Value.bool false])])
 (Array.push h (Obj.cells (Array.mk [Value.string s, Value.slice A n c, Value.slice B m d]) (39 : Nat))) fun (v114 : Value) (h115 : Heap) =>
 v114 = Value.tuple (Array.mk []) ∧ R (Value.tuple (Array.mk [])) h115)
 (br
 (s0.toList ==
 [(100 : UInt8), (101 : UInt8), (108 : UInt8)])
 (∃ (a146 : Option Addr),
 ∃ (k147 : Nat),
 ∃ (k148 : Nat),
 Reads Tryz.prog (Instr.loadAt (28 : Nat) (Value.pointer (some ((Addr.mk (Array.size h) (0 : Nat) none).add (2 : Nat)))))
 (Array.push h (Obj.cells (Array.mk [Value.string s, Value.slice A n c, Value.slice B m d]) (39 : Nat))) (Value.slice a146 k147 k148) ∧
 ∃ (p149 : Addr),
 (a146 = some p149 ∧ (0 : Int) ≤ (0 : Int) ∧ (0 : Int) < (↑k147 : Int)) ∧
 ∃ (s150 : ByteArray),
 Reads Tryz.prog (Instr.loadAt (9 : Nat) (Value.pointer (some p149))) (Array.push h (Obj.cells (Array.mk [Value.string s, Value.slice A n c, Value.slice B m d]) (39 : Nat)))
 (Value.string s150) ∧
 ∃ (a151 : Option Addr),
 ∃ (k152 : Nat),
 ∃ (k153 : Nat),
 Reads Tryz.prog (Instr.loadAt (28 : Nat) (Value.pointer (some ((Addr.mk (Array.size h) (0 : Nat) none).add (2 : Nat)))))
 (Array.push h (Obj.cells (Array.mk [Value.string s, Value.slice A n c, Value.slice B m d]) (39 : Nat))) (Value.slice a151 k152 k153) ∧
 ∃ (p154 : Addr),
 (a151 = some p154 ∧ (0 : Int) ≤ (1 : Int) ∧ (1 : Int) < (↑k152 : Int)) ∧
 ∃ (s155 : ByteArray),
 Reads Tryz.prog (Instr.loadAt (9 : Nat) (Value.pointer (some (p154.add (1 : Nat)))))
 (Array.push h (Obj.cells (Array.mk [Value.string s, Value.slice A n c, Value.slice B m d]) (39 : Nat))) (Value.string s155) ∧
 HC Tryz.prog (23 : Nat)
 (Array.mk
 [Value.pointer (some (Addr.mk p (0 : Nat) none)), Value.string s150,
 Value.agg (Array.mk [Value.string s155, Value.string (ByteArray.mk (Array.mk [])), Value.bool true])])
 (Array.push h (Obj.cells (Array.mk [Value.string s, Value.slice A n c, Value.slice B m d]) (39 : Nat))) fun (v156 : Value) (h157 : Heap) =>
 v156 = Value.tuple (Array.mk []) ∧ R (Value.tuple (Array.mk [])) h157)
 (br
 (s0.toList ==
 [(98 : UInt8), (114 : UInt8), (97 : UInt8), (110 : UInt8), (99 : UInt8), (104 : UInt8)])
 (∃ (a254 : Option Addr),
 ∃ (k255 : Nat),
 ∃ (k256 : Nat),
 Reads Tryz.prog (Instr.loadAt (37 : Nat) (Value.pointer (some ((Addr.mk (Array.size h) (0 : Nat) none).add (1 : Nat)))))
 (Array.push h (Obj.cells (Array.mk [Value.string s, Value.slice A n c, Value.slice B m d]) (39 : Nat))) (Value.slice a254 k255 k256) ∧
 ∃ (p257 : Addr),
 (a254 = some p257 ∧ (0 : Int) ≤ (0 : Int) ∧ (0 : Int) < (↑k255 : Int)) ∧
 ∃ (n258 : Int),
 Reads Tryz.prog (Instr.loadAt (3 : Nat) (Value.pointer (some p257))) (Array.push h (Obj.cells (Array.mk [Value.string s, Value.slice A n c, Value.slice B m d]) (39 : Nat)))
 (Value.int IntKind.i64 n258) ∧
 ∃ (a259 : Option Addr),
 ∃ (k260 : Nat),
 ∃ (k261 : Nat),
 Reads Tryz.prog (Instr.loadAt (28 : Nat) (Value.pointer (some ((Addr.mk (Array.size h) (0 : Nat) none).add (2 : Nat)))))
 (Array.push h (Obj.cells (Array.mk [Value.string s, Value.slice A n c, Value.slice B m d]) (39 : Nat))) (Value.slice a259 k260 k261) ∧
 ∃ (p262 : Addr),
 (a259 = some p262 ∧ (0 : Int) ≤ (0 : Int) ∧ (0 : Int) < (↑k260 : Int)) ∧
 ∃ (s263 : ByteArray),
 Reads Tryz.prog (Instr.loadAt (9 : Nat) (Value.pointer (some p262)))
 (Array.push h (Obj.cells (Array.mk [Value.string s, Value.slice A n c, Value.slice B m d]) (39 : Nat))) (Value.string s263) ∧
 HC Tryz.prog (24 : Nat) (Array.mk [Value.pointer (some (Addr.mk p (0 : Nat) none)), Value.int IntKind.i64 n258, Value.string s263])
 (Array.push h (Obj.cells (Array.mk [Value.string s, Value.slice A n c, Value.slice B m d]) (39 : Nat))) fun (v264 : Value) (h265 : Heap) =>
 ∃ (n266 : Int),
 v264 = Value.int IntKind.i64 n266 ∧
 HC Tryz.prog (21 : Nat) (Array.mk [Value.pointer (some (Addr.mk p (0 : Nat) none)), Value.int IntKind.i64 n266]) h265
 fun (v267 : Value) (h268 : Heap) => v267 = Value.tuple (Array.mk []) ∧ R (Value.tuple (Array.mk [])) h268)
 (br
 (s0.toList ==
 [(100 : UInt8), (114 : UInt8), (111 : UInt8), (112 : UInt8)])
 (∃ (p317 : Addr),
 some (Addr.mk p (0 : Nat) none) = some p317 ∧
 ∃ (a318 : Option Addr),
 Reads Tryz.prog (Instr.loadAt (45 : Nat) (Value.pointer (some p317))) (Array.push h (Obj.cells (Array.mk [Value.string s, Value.slice A n c, Value.slice B m d]) (39 : Nat)))
 (Value.pointer a318) ∧
 ∃ (a319 : Option Addr),
 ∃ (k320 : Nat),
 ∃ (k321 : Nat),
 Reads Tryz.prog (Instr.loadAt (28 : Nat) (Value.pointer (some ((Addr.mk (Array.size h) (0 : Nat) none).add (2 : Nat)))))
 (Array.push h (Obj.cells (Array.mk [Value.string s, Value.slice A n c, Value.slice B m d]) (39 : Nat))) (Value.slice a319 k320 k321) ∧
 ∃ (p322 : Addr),
 (a319 = some p322 ∧ (0 : Int) ≤ (0 : Int) ∧ (0 : Int) < (↑k320 : Int)) ∧
 ∃ (s323 : ByteArray),
 Reads Tryz.prog (Instr.loadAt (9 : Nat) (Value.pointer (some p322)))
 (Array.push h (Obj.cells (Array.mk [Value.string s, Value.slice A n c, Value.slice B m d]) (39 : Nat))) (Value.string s323) ∧
 HC Tryz.prog (25 : Nat) (Array.mk [Value.pointer a318, Value.string s323])
 (Array.push h (Obj.cells (Array.mk [Value.string s, Value.slice A n c, Value.slice B m d]) (39 : Nat))) fun (v324 : Value) (h325 : Heap) =>
 ∃ (n326 : Int),
 v324 = Value.int IntKind.i64 n326 ∧
 HC Tryz.prog (21 : Nat) (Array.mk [Value.pointer (some (Addr.mk p (0 : Nat) none)), Value.int IntKind.i64 n326]) h325 fun (v327 : Value) (h328 : Heap) =>
 v327 = Value.tuple (Array.mk []) ∧ R (Value.tuple (Array.mk [])) h328)
 (br
 (s0.toList ==
 [(109 : UInt8), (101 : UInt8), (114 : UInt8), (103 : UInt8), (101 : UInt8)])
 (∃ (a399 : Option Addr),
 ∃ (k400 : Nat),
 ∃ (k401 : Nat),
 Reads Tryz.prog (Instr.loadAt (28 : Nat) (Value.pointer (some ((Addr.mk (Array.size h) (0 : Nat) none).add (2 : Nat)))))
 (Array.push h (Obj.cells (Array.mk [Value.string s, Value.slice A n c, Value.slice B m d]) (39 : Nat))) (Value.slice a399 k400 k401) ∧
 ∃ (p402 : Addr),
 (a399 = some p402 ∧ (0 : Int) ≤ (0 : Int) ∧ (0 : Int) < (↑k400 : Int)) ∧
 ∃ (s403 : ByteArray),
 Reads Tryz.prog (Instr.loadAt (9 : Nat) (Value.pointer (some p402)))
 (Array.push h (Obj.cells (Array.mk [Value.string s, Value.slice A n c, Value.slice B m d]) (39 : Nat))) (Value.string s403) ∧
 ∃ (a404 : Option Addr),
 ∃ (k405 : Nat),
 ∃ (k406 : Nat),
 Reads Tryz.prog (Instr.loadAt (28 : Nat) (Value.pointer (some ((Addr.mk (Array.size h) (0 : Nat) none).add (2 : Nat)))))
 (Array.push h (Obj.cells (Array.mk [Value.string s, Value.slice A n c, Value.slice B m d]) (39 : Nat))) (Value.slice a404 k405 k406) ∧
 ∃ (p407 : Addr),
 (a404 = some p407 ∧ (0 : Int) ≤ (1 : Int) ∧ (1 : Int) < (↑k405 : Int)) ∧
 ∃ (s408 : ByteArray),
 Reads Tryz.prog (Instr.loadAt (9 : Nat) (Value.pointer (some (p407.add (1 : Nat)))))
 (Array.push h (Obj.cells (Array.mk [Value.string s, Value.slice A n c, Value.slice B m d]) (39 : Nat))) (Value.string s408) ∧
 HC Tryz.prog (26 : Nat) (Array.mk [Value.pointer (some (Addr.mk p (0 : Nat) none)), Value.string s403, Value.string s408])
 (Array.push h (Obj.cells (Array.mk [Value.string s, Value.slice A n c, Value.slice B m d]) (39 : Nat))) fun (v409 : Value) (h410 : Heap) =>
 v409 = Value.tuple (Array.mk []) ∧ R (Value.tuple (Array.mk [])) h410)
 (br
 (s0.toList ==
 [(103 : UInt8), (101 : UInt8), (116 : UInt8)])
 (∃ (a441 : Option Addr),
 ∃ (k442 : Nat),
 ∃ (k443 : Nat),
 Reads Tryz.prog (Instr.loadAt (28 : Nat) (Value.pointer (some ((Addr.mk (Array.size h) (0 : Nat) none).add (2 : Nat)))))
 (Array.push h (Obj.cells (Array.mk [Value.string s, Value.slice A n c, Value.slice B m d]) (39 : Nat))) (Value.slice a441 k442 k443) ∧
 ∃ (p444 : Addr),
 (a441 = some p444 ∧ (0 : Int) ≤ (0 : Int) ∧ (0 : Int) < (↑k442 : Int)) ∧
 ∃ (s445 : ByteArray),
 Reads Tryz.prog (Instr.loadAt (9 : Nat) (Value.pointer (some p444)))
 (Array.push h (Obj.cells (Array.mk [Value.string s, Value.slice A n c, Value.slice B m d]) (39 : Nat))) (Value.string s445) ∧
 ∃ (a446 : Option Addr),
 ∃ (k447 : Nat),
 ∃ (k448 : Nat),
 Reads Tryz.prog (Instr.loadAt (28 : Nat) (Value.pointer (some ((Addr.mk (Array.size h) (0 : Nat) none).add (2 : Nat)))))
 (Array.push h (Obj.cells (Array.mk [Value.string s, Value.slice A n c, Value.slice B m d]) (39 : Nat))) (Value.slice a446 k447 k448) ∧
 ∃ (p449 : Addr),
 (a446 = some p449 ∧ (0 : Int) ≤ (1 : Int) ∧ (1 : Int) < (↑k447 : Int)) ∧
 ∃ (s450 : ByteArray),
 Reads Tryz.prog (Instr.loadAt (9 : Nat) (Value.pointer (some (p449.add (1 : Nat)))))
 (Array.push h (Obj.cells (Array.mk [Value.string s, Value.slice A n c, Value.slice B m d]) (39 : Nat))) (Value.string s450) ∧
 HC Tryz.prog (27 : Nat) (Array.mk [Value.pointer (some (Addr.mk p (0 : Nat) none)), Value.string s445, Value.string s450])
 (Array.push h (Obj.cells (Array.mk [Value.string s, Value.slice A n c, Value.slice B m d]) (39 : Nat))) fun (v451 : Value) (h452 : Heap) =>
 v451 = Value.tuple (Array.mk []) ∧ R (Value.tuple (Array.mk [])) h452)
 (br
 (s0.toList ==
 [(108 : UInt8), (111 : UInt8), (103 : UInt8)])
 (∃ (a483 : Option Addr),
 ∃ (k484 : Nat),
 ∃ (k485 : Nat),
 Reads Tryz.prog (Instr.loadAt (37 : Nat) (Value.pointer (some ((Addr.mk (Array.size h) (0 : Nat) none).add (1 : Nat)))))
 (Array.push h (Obj.cells (Array.mk [Value.string s, Value.slice A n c, Value.slice B m d]) (39 : Nat))) (Value.slice a483 k484 k485) ∧
 ∃ (p486 : Addr),
 (a483 = some p486 ∧ (0 : Int) ≤ (0 : Int) ∧ (0 : Int) < (↑k484 : Int)) ∧
 ∃ (n487 : Int),
 Reads Tryz.prog (Instr.loadAt (3 : Nat) (Value.pointer (some p486)))
 (Array.push h (Obj.cells (Array.mk [Value.string s, Value.slice A n c, Value.slice B m d]) (39 : Nat))) (Value.int IntKind.i64 n487) ∧
 ∃ (a488 : Option Addr),
 ∃ (k489 : Nat),
 ∃ (k490 : Nat),
 Reads Tryz.prog (Instr.loadAt (28 : Nat) (Value.pointer (some ((Addr.mk (Array.size h) (0 : Nat) none).add (2 : Nat)))))
 (Array.push h (Obj.cells (Array.mk [Value.string s, Value.slice A n c, Value.slice B m d]) (39 : Nat))) (Value.slice a488 k489 k490) ∧
 ∃ (p491 : Addr),
 (a488 = some p491 ∧ (0 : Int) ≤ (0 : Int) ∧ (0 : Int) < (↑k489 : Int)) ∧
 ∃ (s492 : ByteArray),
 Reads Tryz.prog (Instr.loadAt (9 : Nat) (Value.pointer (some p491)))
 (Array.push h (Obj.cells (Array.mk [Value.string s, Value.slice A n c, Value.slice B m d]) (39 : Nat))) (Value.string s492) ∧
 HC Tryz.prog (28 : Nat) (Array.mk [Value.pointer (some (Addr.mk p (0 : Nat) none)), Value.int IntKind.i64 n487, Value.string s492])
 (Array.push h (Obj.cells (Array.mk [Value.string s, Value.slice A n c, Value.slice B m d]) (39 : Nat))) fun (v493 : Value) (h494 : Heap) =>
 v493 = Value.tuple (Array.mk []) ∧ R (Value.tuple (Array.mk [])) h494)
 (br
 (s0.toList ==
 [(100 : UInt8), (105 : UInt8), (102 : UInt8), (102 : UInt8)])
 (∃ (a543 : Option Addr),
 ∃ (k544 : Nat),
 ∃ (k545 : Nat),
 Reads Tryz.prog (Instr.loadAt (28 : Nat) (Value.pointer (some ((Addr.mk (Array.size h) (0 : Nat) none).add (2 : Nat)))))
 (Array.push h (Obj.cells (Array.mk [Value.string s, Value.slice A n c, Value.slice B m d]) (39 : Nat))) (Value.slice a543 k544 k545) ∧
 ∃ (p546 : Addr),
 (a543 = some p546 ∧ (0 : Int) ≤ (0 : Int) ∧ (0 : Int) < (↑k544 : Int)) ∧
 ∃ (s547 : ByteArray),
 Reads Tryz.prog (Instr.loadAt (9 : Nat) (Value.pointer (some p546)))
 (Array.push h (Obj.cells (Array.mk [Value.string s, Value.slice A n c, Value.slice B m d]) (39 : Nat))) (Value.string s547) ∧
 ∃ (a548 : Option Addr),
 ∃ (k549 : Nat),
 ∃ (k550 : Nat),
 Reads Tryz.prog (Instr.loadAt (28 : Nat) (Value.pointer (some ((Addr.mk (Array.size h) (0 : Nat) none).add (2 : Nat)))))
 (Array.push h (Obj.cells (Array.mk [Value.string s, Value.slice A n c, Value.slice B m d]) (39 : Nat))) (Value.slice a548 k549 k550) ∧
 ∃ (p551 : Addr),
 (a548 = some p551 ∧ (0 : Int) ≤ (1 : Int) ∧ (1 : Int) < (↑k549 : Int)) ∧
 ∃ (s552 : ByteArray),
 Reads Tryz.prog (Instr.loadAt (9 : Nat) (Value.pointer (some (p551.add (1 : Nat)))))
 (Array.push h (Obj.cells (Array.mk [Value.string s, Value.slice A n c, Value.slice B m d]) (39 : Nat))) (Value.string s552) ∧
 HC Tryz.prog (29 : Nat) (Array.mk [Value.pointer (some (Addr.mk p (0 : Nat) none)), Value.string s547, Value.string s552])
 (Array.push h (Obj.cells (Array.mk [Value.string s, Value.slice A n c, Value.slice B m d]) (39 : Nat))) fun (v553 : Value) (h554 : Heap) =>
 v553 = Value.tuple (Array.mk []) ∧ R (Value.tuple (Array.mk [])) h554)
 (br
 (s0.toList ==
 [(108 : UInt8), (105 : UInt8), (115 : UInt8), (116 : UInt8)])
 (HC Tryz.prog (30 : Nat) (Array.mk [Value.pointer (some (Addr.mk p (0 : Nat) none))])
 (Array.push h (Obj.cells (Array.mk [Value.string s, Value.slice A n c, Value.slice B m d]) (39 : Nat))) fun (v603 : Value) (h604 : Heap) =>
 v603 = Value.tuple (Array.mk []) ∧ R (Value.tuple (Array.mk [])) h604)
 (br
 (s0.toList ==
 [(110 : UInt8), (117 : UInt8), (109 : UInt8)])
 (∃ (p635 : Addr),
 some (Addr.mk p (0 : Nat) none) = some p635 ∧
 ∃ (a636 : Option Addr),
 Reads Tryz.prog (Instr.loadAt (45 : Nat) (Value.pointer (some p635)))
 (Array.push h (Obj.cells (Array.mk [Value.string s, Value.slice A n c, Value.slice B m d]) (39 : Nat))) (Value.pointer a636) ∧
 HC Tryz.prog (32 : Nat) (Array.mk [Value.pointer a636]) (Array.push h (Obj.cells (Array.mk [Value.string s, Value.slice A n c, Value.slice B m d]) (39 : Nat)))
 fun (v637 : Value) (h638 : Heap) =>
 ∃ (n639 : Int),
 v637 = Value.int IntKind.i64 n639 ∧
 HC Tryz.prog (19 : Nat) (Array.mk [Value.int IntKind.i64 n639]) h638 fun (v640 : Value) (h641 : Heap) =>
 ∃ (s642 : ByteArray),
 v640 = Value.string s642 ∧
 SVC Tryz.prog (Instr.buildSlice (28 : Nat) (1 : Nat) (Array.mk [((0 : Nat), Value.string s642)])) h641 fun (v643 : Value) (h644 : Heap) =>
 ∃ (a645 : Option Addr),
 ∃ (k646 : Nat),
 ∃ (k647 : Nat),
 v643 = Value.slice a645 k646 k647 ∧
 HC Tryz.prog (31 : Nat) (Array.mk [Value.pointer (some (Addr.mk p (0 : Nat) none)), Value.slice a645 k646 k647]) h644
 fun (v648 : Value) (h649 : Heap) => v648 = Value.tuple (Array.mk []) ∧ R (Value.tuple (Array.mk [])) h649)
 (br
 (s0.toList ==
 [(115 : UInt8), (121 : UInt8), (110 : UInt8), (99 : UInt8)])
 (∃ (p698 : Addr),
 some (Addr.mk p (0 : Nat) none) = some p698 ∧
 ∃ (a699 : Option Addr),
 Reads Tryz.prog (Instr.loadAt (45 : Nat) (Value.pointer (some p698)))
 (Array.push h (Obj.cells (Array.mk [Value.string s, Value.slice A n c, Value.slice B m d]) (39 : Nat))) (Value.pointer a699) ∧
 HC Tryz.prog (33 : Nat) (Array.mk [Value.pointer a699]) (Array.push h (Obj.cells (Array.mk [Value.string s, Value.slice A n c, Value.slice B m d]) (39 : Nat)))
 fun (v700 : Value) (h701 : Heap) =>
 ∃ (n702 : Int),
 v700 = Value.int IntKind.i64 n702 ∧
 HC Tryz.prog (21 : Nat) (Array.mk [Value.pointer (some (Addr.mk p (0 : Nat) none)), Value.int IntKind.i64 n702]) h701 fun (v703 : Value) (h704 : Heap) =>
 v703 = Value.tuple (Array.mk []) ∧ R (Value.tuple (Array.mk [])) h704)
 (br
 (s0.toList ==
 [(115 : UInt8), (116 : UInt8), (101 : UInt8), (112 : UInt8)])
 (∃ (p753 : Addr),
 some (Addr.mk p (0 : Nat) none) = some p753 ∧
 ∃ (a754 : Option Addr),
 Reads Tryz.prog (Instr.loadAt (45 : Nat) (Value.pointer (some p753)))
 (Array.push h (Obj.cells (Array.mk [Value.string s, Value.slice A n c, Value.slice B m d]) (39 : Nat))) (Value.pointer a754) ∧
 HC Tryz.prog (34 : Nat) (Array.mk [Value.pointer a754]) (Array.push h (Obj.cells (Array.mk [Value.string s, Value.slice A n c, Value.slice B m d]) (39 : Nat)))
 fun (v755 : Value) (h756 : Heap) =>
 ∃ (b757 : Bool),
 ∃ (n758 : Int),
 v755 = Value.tuple (Array.mk [Value.bool b757, Value.int IntKind.i64 n758]) ∧
 HC Tryz.prog (21 : Nat) (Array.mk [Value.pointer (some (Addr.mk p (0 : Nat) none)), Value.int IntKind.i64 n758]) h756 fun (v759 : Value) (h760 : Heap) =>
 v759 = Value.tuple (Array.mk []) ∧ R (Value.tuple (Array.mk [])) h760)
 (br
 (s0.toList ==
 [(114 : UInt8), (117 : UInt8), (110 : UInt8)])
 (∃ (p791 : Addr),
 some (Addr.mk p (0 : Nat) none) = some p791 ∧
 ∃ (a792 : Option Addr),
 Reads Tryz.prog (Instr.loadAt (45 : Nat) (Value.pointer (some p791)))
 (Array.push h (Obj.cells (Array.mk [Value.string s, Value.slice A n c, Value.slice B m d]) (39 : Nat))) (Value.pointer a792) ∧
 ∃ (a793 : Option Addr),
 ∃ (k794 : Nat),
 ∃ (k795 : Nat),
 Reads Tryz.prog (Instr.loadAt (37 : Nat) (Value.pointer (some ((Addr.mk (Array.size h) (0 : Nat) none).add (1 : Nat)))))
 (Array.push h (Obj.cells (Array.mk [Value.string s, Value.slice A n c, Value.slice B m d]) (39 : Nat))) (Value.slice a793 k794 k795) ∧
 ∃ (p796 : Addr),
 (a793 = some p796 ∧ (0 : Int) ≤ (0 : Int) ∧ (0 : Int) < (↑k794 : Int)) ∧
 ∃ (n797 : Int),
 Reads Tryz.prog (Instr.loadAt (3 : Nat) (Value.pointer (some p796)))
 (Array.push h (Obj.cells (Array.mk [Value.string s, Value.slice A n c, Value.slice B m d]) (39 : Nat))) (Value.int IntKind.i64 n797) ∧
 ∃ (n798 : Int),
 Reads Tryz.prog
 (Builtin.min_ (Array.mk [(3 : Nat), (3 : Nat)]) (3 : Nat) (Array.mk [Value.int IntKind.i64 n797, Value.int IntKind.i64 (1025 : Int)]))
 (Array.push h (Obj.cells (Array.mk [Value.string s, Value.slice A n c, Value.slice B m d]) (39 : Nat))) (Value.int IntKind.i64 n798) ∧
 HC Tryz.prog (35 : Nat) (Array.mk [Value.pointer a792, Value.int IntKind.i64 n798])
 (Array.push h (Obj.cells (Array.mk [Value.string s, Value.slice A n c, Value.slice B m d]) (39 : Nat)))
 fun (v799 : Value) (h800 : Heap) =>
 ∃ (n801 : Int),
 ∃ (b802 : Bool),
 ∃ (n803 : Int),
 v799 = Value.tuple (Array.mk [Value.int IntKind.i64 n801, Value.bool b802, Value.int IntKind.i64 n803]) ∧
 HC Tryz.prog (19 : Nat) (Array.mk [Value.int IntKind.i64 n801]) h800 fun (v804 : Value) (h805 : Heap) =>
 ∃ (s806 : ByteArray),
 v804 = Value.string s806 ∧
 SVC Tryz.prog (Instr.buildSlice (28 : Nat) (1 : Nat) (Array.mk [((0 : Nat), Value.string s806)])) h805
 fun (v807 : Value) (h808 : Heap) =>
 ∃ (a809 : Option Addr),
 ∃ (k810 : Nat),
 ∃ (k811 : Nat),
 v807 = Value.slice a809 k810 k811 ∧
 HC Tryz.prog (36 : Nat)
 (Array.mk
 [Value.pointer (some (Addr.mk p (0 : Nat) none)), Value.int IntKind.i64 n803, Value.slice a809 k810 k811])
 h808 fun (v812 : Value) (h813 : Heap) => v812 = Value.tuple (Array.mk []) ∧ R (Value.tuple (Array.mk [])) h813)
 (br
 (s0.toList ==
 [(111 : UInt8), (102 : UInt8), (102 : UInt8)])
 (∃ (p844 : Addr),
 some (Addr.mk p (0 : Nat) none) = some p844 ∧
 ∃ (a845 : Option Addr),
 Reads Tryz.prog (Instr.loadAt (43 : Nat) (Value.pointer (some (p844.add (1 : Nat)))))
 (Array.push h (Obj.cells (Array.mk [Value.string s, Value.slice A n c, Value.slice B m d]) (39 : Nat))) (Value.pointer a845) ∧
 ∃ (a846 : Option Addr),
 ∃ (k847 : Nat),
 ∃ (k848 : Nat),
 Reads Tryz.prog (Instr.loadAt (37 : Nat) (Value.pointer (some ((Addr.mk (Array.size h) (0 : Nat) none).add (1 : Nat)))))
 (Array.push h (Obj.cells (Array.mk [Value.string s, Value.slice A n c, Value.slice B m d]) (39 : Nat))) (Value.slice a846 k847 k848) ∧
 ∃ (p849 : Addr),
 (a846 = some p849 ∧ (0 : Int) ≤ (0 : Int) ∧ (0 : Int) < (↑k847 : Int)) ∧
 ∃ (n850 : Int),
 Reads Tryz.prog (Instr.loadAt (3 : Nat) (Value.pointer (some p849)))
 (Array.push h (Obj.cells (Array.mk [Value.string s, Value.slice A n c, Value.slice B m d]) (39 : Nat))) (Value.int IntKind.i64 n850) ∧
 HC Tryz.prog (37 : Nat) (Array.mk [Value.pointer a845, Value.int IntKind.u64 (IntKind.u64.wrap n850)])
 (Array.push h (Obj.cells (Array.mk [Value.string s, Value.slice A n c, Value.slice B m d]) (39 : Nat))) fun (v851 : Value) (h852 : Heap) =>
 v851 = Value.tuple (Array.mk []) ∧
 SVC Tryz.prog
 (Instr.buildSlice (28 : Nat) (1 : Nat) (Array.mk [((0 : Nat), Value.string (ByteArray.mk (Array.mk [(111 : UInt8), (107 : UInt8)])))]))
 h852 fun (v853 : Value) (h854 : Heap) =>
 ∃ (a855 : Option Addr),
 ∃ (k856 : Nat),
 ∃ (k857 : Nat),
 v853 = Value.slice a855 k856 k857 ∧
 HC Tryz.prog (31 : Nat) (Array.mk [Value.pointer (some (Addr.mk p (0 : Nat) none)), Value.slice a855 k856 k857]) h854
 fun (v858 : Value) (h859 : Heap) => v858 = Value.tuple (Array.mk []) ∧ R (Value.tuple (Array.mk [])) h859)
 (br
 (s0.toList ==
 [(111 : UInt8), (110 : UInt8)])
 (∃ (p876 : Addr),
 some (Addr.mk p (0 : Nat) none) = some p876 ∧
 ∃ (a877 : Option Addr),
 Reads Tryz.prog (Instr.loadAt (43 : Nat) (Value.pointer (some (p876.add (1 : Nat)))))
 (Array.push h (Obj.cells (Array.mk [Value.string s, Value.slice A n c, Value.slice B m d]) (39 : Nat))) (Value.pointer a877) ∧
 HC Tryz.prog (38 : Nat) (Array.mk [Value.pointer a877])
 (Array.push h (Obj.cells (Array.mk [Value.string s, Value.slice A n c, Value.slice B m d]) (39 : Nat))) fun (v878 : Value) (h879 : Heap) =>
 v878 = Value.tuple (Array.mk []) ∧
 SVC Tryz.prog (Instr.buildSlice (28 : Nat) (1 : Nat) (Array.mk [((0 : Nat), Value.string (ByteArray.mk (Array.mk [(111 : UInt8), (107 : UInt8)])))]))
 h879 fun (v880 : Value) (h881 : Heap) =>
 ∃ (a882 : Option Addr),
 ∃ (k883 : Nat),
 ∃ (k884 : Nat),
 v880 = Value.slice a882 k883 k884 ∧
 HC Tryz.prog (31 : Nat) (Array.mk [Value.pointer (some (Addr.mk p (0 : Nat) none)), Value.slice a882 k883 k884]) h881
 fun (v885 : Value) (h886 : Heap) => v885 = Value.tuple (Array.mk []) ∧ R (Value.tuple (Array.mk [])) h886)
 (br
 (s0.toList ==
 [(97 : UInt8), (114 : UInt8), (109 : UInt8)])
 (∃ (p917 : Addr),
 some (Addr.mk p (0 : Nat) none) = some p917 ∧
 ∃ (a918 : Option Addr),
 Reads Tryz.prog (Instr.loadAt (43 : Nat) (Value.pointer (some (p917.add (1 : Nat)))))
 (Array.push h (Obj.cells (Array.mk [Value.string s, Value.slice A n c, Value.slice B m d]) (39 : Nat))) (Value.pointer a918) ∧
 ∃ (a919 : Option Addr),
 ∃ (k920 : Nat),
 ∃ (k921 : Nat),
 Reads Tryz.prog (Instr.loadAt (37 : Nat) (Value.pointer (some ((Addr.mk (Array.size h) (0 : Nat) none).add (1 : Nat)))))
 (Array.push h (Obj.cells (Array.mk [Value.string s, Value.slice A n c, Value.slice B m d]) (39 : Nat))) (Value.slice a919 k920 k921) ∧
 ∃ (p922 : Addr),
 (a919 = some p922 ∧ (0 : Int) ≤ (0 : Int) ∧ (0 : Int) < (↑k920 : Int)) ∧
 ∃ (n923 : Int),
 Reads Tryz.prog (Instr.loadAt (3 : Nat) (Value.pointer (some p922)))
 (Array.push h (Obj.cells (Array.mk [Value.string s, Value.slice A n c, Value.slice B m d]) (39 : Nat))) (Value.int IntKind.i64 n923) ∧
 ∃ (a924 : Option Addr),
 ∃ (k925 : Nat),
 ∃ (k926 : Nat),
 Reads Tryz.prog (Instr.loadAt (37 : Nat) (Value.pointer (some ((Addr.mk (Array.size h) (0 : Nat) none).add (1 : Nat)))))
 (Array.push h (Obj.cells (Array.mk [Value.string s, Value.slice A n c, Value.slice B m d]) (39 : Nat)))
 (Value.slice a924 k925 k926) ∧
 ∃ (p927 : Addr),
 (a924 = some p927 ∧ (0 : Int) ≤ (1 : Int) ∧ (1 : Int) < (↑k925 : Int)) ∧
 ∃ (n928 : Int),
 Reads Tryz.prog (Instr.loadAt (3 : Nat) (Value.pointer (some (p927.add (1 : Nat)))))
 (Array.push h (Obj.cells (Array.mk [Value.string s, Value.slice A n c, Value.slice B m d]) (39 : Nat)))
 (Value.int IntKind.i64 n928) ∧
 HC Tryz.prog (39 : Nat)
 (Array.mk [Value.pointer a918, Value.int IntKind.i64 n923, Value.int IntKind.u64 (IntKind.u64.wrap n928)])
 (Array.push h (Obj.cells (Array.mk [Value.string s, Value.slice A n c, Value.slice B m d]) (39 : Nat)))
 fun (v929 : Value) (h930 : Heap) =>
 v929 = Value.tuple (Array.mk []) ∧
 SVC Tryz.prog
 (Instr.buildSlice (28 : Nat) (1 : Nat)
 (Array.mk [((0 : Nat), Value.string (ByteArray.mk (Array.mk [(111 : UInt8), (107 : UInt8)])))]))
 h930 fun (v931 : Value) (h932 : Heap) =>
 ∃ (a933 : Option Addr),
 ∃ (k934 : Nat),
 ∃ (k935 : Nat),
 v931 = Value.slice a933 k934 k935 ∧
 HC Tryz.prog (31 : Nat)
 (Array.mk [Value.pointer (some (Addr.mk p (0 : Nat) none)), Value.slice a933 k934 k935]) h932
 fun (v936 : Value) (h937 : Heap) => v936 = Value.tuple (Array.mk []) ∧ R (Value.tuple (Array.mk [])) h937)
 (br
 (s0.toList ==
 [(99 : UInt8), (108 : UInt8), (111 : UInt8), (110 : UInt8), (101 : UInt8)])
 (∃ (a1008 : Option Addr),
 ∃ (k1009 : Nat),
 ∃ (k1010 : Nat),
 Reads Tryz.prog (Instr.loadAt (37 : Nat) (Value.pointer (some ((Addr.mk (Array.size h) (0 : Nat) none).add (1 : Nat)))))
 (Array.push h (Obj.cells (Array.mk [Value.string s, Value.slice A n c, Value.slice B m d]) (39 : Nat))) (Value.slice a1008 k1009 k1010) ∧
 ∃ (p1011 : Addr),
 (a1008 = some p1011 ∧ (0 : Int) ≤ (0 : Int) ∧ (0 : Int) < (↑k1009 : Int)) ∧
 ∃ (n1012 : Int),
 Reads Tryz.prog (Instr.loadAt (3 : Nat) (Value.pointer (some p1011)))
 (Array.push h (Obj.cells (Array.mk [Value.string s, Value.slice A n c, Value.slice B m d]) (39 : Nat))) (Value.int IntKind.i64 n1012) ∧
 ∃ (a1013 : Option Addr),
 ∃ (k1014 : Nat),
 ∃ (k1015 : Nat),
 Reads Tryz.prog (Instr.loadAt (37 : Nat) (Value.pointer (some ((Addr.mk (Array.size h) (0 : Nat) none).add (1 : Nat)))))
 (Array.push h (Obj.cells (Array.mk [Value.string s, Value.slice A n c, Value.slice B m d]) (39 : Nat)))
 (Value.slice a1013 k1014 k1015) ∧
 ∃ (p1016 : Addr),
 (a1013 = some p1016 ∧ (0 : Int) ≤ (1 : Int) ∧ (1 : Int) < (↑k1014 : Int)) ∧
 ∃ (n1017 : Int),
 Reads Tryz.prog (Instr.loadAt (3 : Nat) (Value.pointer (some (p1016.add (1 : Nat)))))
 (Array.push h (Obj.cells (Array.mk [Value.string s, Value.slice A n c, Value.slice B m d]) (39 : Nat)))
 (Value.int IntKind.i64 n1017) ∧
 HC Tryz.prog (40 : Nat)
 (Array.mk [Value.pointer (some (Addr.mk p (0 : Nat) none)), Value.int IntKind.i64 n1012, Value.int IntKind.i64 n1017])
 (Array.push h (Obj.cells (Array.mk [Value.string s, Value.slice A n c, Value.slice B m d]) (39 : Nat)))
 fun (v1018 : Value) (h1019 : Heap) =>
 ∃ (n1020 : Int),
 v1018 = Value.int IntKind.i64 n1020 ∧
 HC Tryz.prog (21 : Nat) (Array.mk [Value.pointer (some (Addr.mk p (0 : Nat) none)), Value.int IntKind.i64 n1020]) h1019
 fun (v1021 : Value) (h1022 : Heap) => v1021 = Value.tuple (Array.mk []) ∧ R (Value.tuple (Array.mk [])) h1022)
 (br
 (s0.toList ==
 [(114 : UInt8), (101 : UInt8), (97 : UInt8), (100 : UInt8)])
 (∃ (p1071 : Addr),
 some (Addr.mk p (0 : Nat) none) = some p1071 ∧
 ∃ (a1072 : Option Addr),
 Reads Tryz.prog (Instr.loadAt (46 : Nat) (Value.pointer (some (p1071.add (2 : Nat)))))
 (Array.push h (Obj.cells (Array.mk [Value.string s, Value.slice A n c, Value.slice B m d]) (39 : Nat))) (Value.pointer a1072) ∧
 ∃ (a1073 : Option Addr),
 ∃ (k1074 : Nat),
 ∃ (k1075 : Nat),
 Reads Tryz.prog (Instr.loadAt (28 : Nat) (Value.pointer (some ((Addr.mk (Array.size h) (0 : Nat) none).add (2 : Nat)))))
 (Array.push h (Obj.cells (Array.mk [Value.string s, Value.slice A n c, Value.slice B m d]) (39 : Nat))) (Value.slice a1073 k1074 k1075) ∧
 ∃ (p1076 : Addr),
 (a1073 = some p1076 ∧ (0 : Int) ≤ (0 : Int) ∧ (0 : Int) < (↑k1074 : Int)) ∧
 ∃ (s1077 : ByteArray),
 Reads Tryz.prog (Instr.loadAt (9 : Nat) (Value.pointer (some p1076)))
 (Array.push h (Obj.cells (Array.mk [Value.string s, Value.slice A n c, Value.slice B m d]) (39 : Nat))) (Value.string s1077) ∧
 ∃ (a1078 : Option Addr),
 ∃ (k1079 : Nat),
 ∃ (k1080 : Nat),
 Reads Tryz.prog (Instr.loadAt (37 : Nat) (Value.pointer (some ((Addr.mk (Array.size h) (0 : Nat) none).add (1 : Nat)))))
 (Array.push h (Obj.cells (Array.mk [Value.string s, Value.slice A n c, Value.slice B m d]) (39 : Nat)))
 (Value.slice a1078 k1079 k1080) ∧
 ∃ (p1081 : Addr),
 (a1078 = some p1081 ∧ (0 : Int) ≤ (0 : Int) ∧ (0 : Int) < (↑k1079 : Int)) ∧
 ∃ (n1082 : Int),
 Reads Tryz.prog (Instr.loadAt (3 : Nat) (Value.pointer (some p1081)))
 (Array.push h (Obj.cells (Array.mk [Value.string s, Value.slice A n c, Value.slice B m d]) (39 : Nat)))
 (Value.int IntKind.i64 n1082) ∧
 ∃ (a1083 : Option Addr),
 ∃ (k1084 : Nat),
 ∃ (k1085 : Nat),
 Reads Tryz.prog
 (Instr.loadAt (28 : Nat) (Value.pointer (some ((Addr.mk (Array.size h) (0 : Nat) none).add (2 : Nat)))))
 (Array.push h (Obj.cells (Array.mk [Value.string s, Value.slice A n c, Value.slice B m d]) (39 : Nat)))
 (Value.slice a1083 k1084 k1085) ∧
 ∃ (p1086 : Addr),
 (a1083 = some p1086 ∧ (0 : Int) ≤ (1 : Int) ∧ (1 : Int) < (↑k1084 : Int)) ∧
 ∃ (s1087 : ByteArray),
 Reads Tryz.prog (Instr.loadAt (9 : Nat) (Value.pointer (some (p1086.add (1 : Nat)))))
 (Array.push h
 (Obj.cells (Array.mk [Value.string s, Value.slice A n c, Value.slice B m d]) (39 : Nat)))
 (Value.string s1087) ∧
 HC Tryz.prog (42 : Nat)
 (Array.mk
 [Value.pointer a1072, Value.string s1077, Value.int IntKind.i64 n1082, Value.string s1087])
 (Array.push h
 (Obj.cells (Array.mk [Value.string s, Value.slice A n c, Value.slice B m d]) (39 : Nat)))
 fun (v1088 : Value) (h1089 : Heap) =>
 ∃ (s1090 : ByteArray),
 ∃ (b1091 : Bool),
 ∃ (n1092 : Int),
 v1088 =
 Value.tuple
 (Array.mk [Value.string s1090, Value.bool b1091, Value.int IntKind.i64 n1092]) ∧
 HC Tryz.prog (41 : Nat)
 (Array.mk
 [Value.pointer (some (Addr.mk p (0 : Nat) none)), Value.string s1090, Value.bool b1091,
 Value.int IntKind.i64 n1092])
 h1089 fun (v1093 : Value) (h1094 : Heap) =>
 v1093 = Value.tuple (Array.mk []) ∧ R (Value.tuple (Array.mk [])) h1094)
 (R (Value.tuple (Array.mk [])) (Array.push h (Obj.cells (Array.mk [Value.string s, Value.slice A n c, Value.slice B m d]) (39 : Nat))))))))))))))))))))))) := by kernel_rfl

theorem vcBwStr (p : Nat) (s : ByteArray) (h : Heap) (R : Value → Heap → Prop) :
    vcF Tryz.prog Tryz.f68 19 [] [] [.pointer (some ⟨p, 3, none⟩), .string s] h R =
(HC Tryz.prog (119 : Nat) (Array.mk [Value.pointer (some (Addr.mk p (3 : Nat) none))]) h fun (v0 : Value) (h1 : Heap) =>
 v0 = Value.tuple (Array.mk []) ∧
 ∃ (p2 : Addr),
 some (Addr.mk p (3 : Nat) none) = some p2 ∧
 ∃ (a3 : Option Addr),
 ∃ (k4 : Nat),
 ∃ (k5 : Nat),
 Reads Tryz.prog (Instr.loadAt (23 : Nat) (Value.pointer (some (p2.add (1 : Nat))))) h1 (Value.slice a3 k4 k5) ∧
 SVC Tryz.prog (Builtin.append_ (Array.mk [(23 : Nat), (9 : Nat)]) (23 : Nat) (Array.mk [Value.slice a3 k4 k5, Value.string s])) h1 fun (v6 : Value) (h7 : Heap) =>
 ∃ (a8 : Option Addr),
 ∃ (k9 : Nat),
 ∃ (k10 : Nat),
 v6 = Value.slice a8 k9 k10 ∧
 ∃ (p11 : Addr),
 some (Addr.mk p (3 : Nat) none) = some p11 ∧
 SVC Tryz.prog (Instr.storeAt (23 : Nat) (Value.pointer (some (p11.add (1 : Nat)))) (Value.slice a8 k9 k10)) h7 fun (x12 : Unit) (h13 : Heap) =>
 R (Value.tuple (Array.mk [Value.int IntKind.i64 (↑s.size : Int), Value.nilIface])) h13) := by kernel_rfl

theorem vcJoin1 (A : Option Addr) (c : Nat) (s : ByteArray) (h : Heap) (R : Value → Heap → Prop) :
    vcF Tryz.prog Tryz.f69 75 [] [] [.slice A 1 c, .string s] h R =
(∃ (p0 : Addr),
 (A = some p0 ∧ (0 : Int) ≤ (0 : Int) ∧ (0 : Int) < (↑(1 : Nat) : Int)) ∧
 ∃ (s1 : ByteArray), Reads Tryz.prog (Instr.loadAt (9 : Nat) (Value.pointer (some p0))) h (Value.string s1) ∧ R (Value.string s1) h) := by kernel_rfl

theorem vcRpNum0 (h : Heap) (R : Value → Heap → Prop) :
    vcF Tryz.prog Tryz.f32 9 [] [] [.pointer none] h R =
(∃ (b0 : Bool),
 Reads Tryz.prog (eqSem BinOp.eql (45 : Nat) (Operand.tmp (3 : Nat)) (Operand.const (Value.pointer none)) (Value.pointer none) (Value.pointer none)) h (Value.bool b0) ∧
 br b0 (R (Value.int IntKind.i64 (0 : Int)) h)
 (∃ (p1 : Addr), none = some p1 ∧ ∃ (n2 : Int), Reads Tryz.prog (Instr.loadAt (3 : Nat) (Value.pointer (some (p1.add (2 : Nat))))) h (Value.int IntKind.i64 n2) ∧ R (Value.int IntKind.i64 n2) h)) := by kernel_rfl

theorem vcTz (h : Heap) (R : Value → Heap → Prop) :
    vcF Tryz.prog Tryz.f214 8 [] [] [.int .u64 16] h R =
(HC Tryz.prog (259 : Nat) (Array.mk [Value.int IntKind.u64 (16 : Int)]) h fun (v0 : Value) (h1 : Heap) => ∃ (n2 : Int), v0 = Value.int IntKind.i64 n2 ∧ R (Value.int IntKind.i64 n2) h1) := by kernel_rfl

theorem vcTz64 (h : Heap) (R : Value → Heap → Prop) :
    vcF Tryz.prog Tryz.f259 14 [] [] [.int .u64 16] h R =
((0 : Int) ≤ (58 : Int) ∧
 ((0 : Int) ≤ (IntKind.u64.wrap (IntKind.u64.wrap (↑(16 : Nat) : Int) * (285870213051353865 : Int))).fdiv ((2 : Int) ^ (58 : Nat)) ∧
 (IntKind.u64.wrap (IntKind.u64.wrap (↑(16 : Nat) : Int) * (285870213051353865 : Int))).fdiv ((2 : Int) ^ (58 : Nat)) < (↑(64 : Nat) : Int)) ∧
 ∃ (n0 : Int),
 Reads Tryz.prog (Instr.loadAt (5 : Nat) (Value.pointer (some ((Addr.mk (8 : Nat) (0 : Nat) none).add (15 : Nat))))) h (Value.int IntKind.u8 n0) ∧
 R (Value.int IntKind.i64 (IntKind.i64.wrap n0)) h) := by kernel_rfl
end Go.Proofs.YtbfolflejhkehaaGreatDoor
end

section
set_option linter.unusedVariables false
set_option linter.unusedSimpArgs false
namespace Go.Proofs
open Go.Shelf Go.RowKit

section
variable {P : Program} {ρ : Ren}
set_option maxHeartbeats 1000000 in
set_option maxRecDepth 100000 in
theorem YtbfolflejhkehaaGreatDoor.strCall (L : Lays.n169 P ρ) (X : Builder.Extra P ρ) (b g cap cells : Nat) (l : List UInt8) (w : World) (c0 : w.cell? ⟨b, 4, none⟩ = some (.slice (some ⟨g, 0, none⟩) l.length cap)) (h0 : l ≠ []) (hc : l.length ≤ cap)
    (hsh : w.shape? g = some (ρ.t 5, cells)) (hn : l.length ≤ cells) (h63 : l.length ≤ 9223372036854775807) (hcell : ∀ j x, l[j]? = some x → w.cell? ((⟨g, 0, none⟩ : Addr).add j) = some (.int .u8 x.toNat)) :
    Calls P (ρ.f 169) #[.pointer (some ⟨b, 3, none⟩)] w fun e w' => e = .returned (.string ⟨l.toArray⟩) ∧ w' = w.drew.freeze ⟨g, 0, none⟩ l.length := by
  have hl0 : l.length ≠ 0 := by simpa using h0
  have c1 : w.drew.cell? ⟨b, 4, none⟩ = some (.slice (some ⟨g, 0, none⟩) l.length cap) := c0
  have hSD : (Builtin.unsafeSliceData_ #[(ρ.t 37)] (ρ.t 127) #[.slice (some ⟨g, 0, none⟩) l.length cap]).run P w.drew = .ok (.pointer (some ⟨g, 0, none⟩)) w.drew :=
    Lib.run_unsafeSliceData_row _ _ _ _ _ _ (by omega)
  have hUS : (Builtin.unsafeString_ #[(ρ.t 127), (ρ.t 3)] (ρ.t 9) #[.pointer (some ⟨g, 0, none⟩), .int .i64 l.length]).run P w.drew = .ok (.string ⟨l.toArray⟩) (w.drew.freeze ⟨g, 0, none⟩ l.length) :=
    Lib.run_unsafeString_row w.drew (ρ.t 127) (ρ.t 3) (ρ.t 9) (ρ.t 5) L.t127 X.cellsByte g cells hsh l h0 hn h63 hcell
  have mixed := L.mixed
  have t72 := L.t72; have a72 := L.a72; have z72 := L.z72; have v72 := L.v72; have u72 := run_underlying L.t72
  have t70 := L.t70; have a70 := L.a70; have z70 := L.z70; have v70 := L.v70; have u70 := run_underlying L.t70
  have t37 := L.t37; have a37 := L.a37; have z37 := L.z37; have v37 := L.v37; have u37 := run_underlying L.t37
  have t127 := L.t127; have a127 := L.a127; have z127 := L.z127; have v127 := L.v127; have u127 := run_underlying L.t127
  have t3 := L.t3; have a3 := L.a3; have z3 := L.z3; have v3 := L.v3; have u3 := run_underlying L.t3
  have t9 := L.t9; have a9 := L.a9; have z9 := L.z9; have v9 := L.v9; have u9 := run_underlying L.t9
  have t5 := X.t5; have a5 := X.a5; have z5 := X.z5; have v5 := X.v5; have u5 := run_underlying X.t5
  go_enter L.f169, Body.n169_ntmps ρ
  go_wp2
  go_region_o
  all_goals (go_wp2; go_ret; exact ⟨rfl, rfl⟩)
set_option maxHeartbeats 2000000 in
set_option maxRecDepth 100000 in
theorem YtbfolflejhkehaaGreatDoor.strNil (L : Lays.n169 P ρ) (X : Builder.Extra P ρ) (b : Nat) (w : World) (c0 : w.cell? ⟨b, 4, none⟩ = some (.slice none 0 0)) :
    Calls P (ρ.f 169) #[.pointer (some ⟨b, 3, none⟩)] w fun e w' => e = .returned (.string ⟨#[]⟩) ∧ w' = w.drew := by
  have hUS := Any.unsafeString_none L X
  have c1 : w.drew.cell? ⟨b, 4, none⟩ = some (.slice none 0 0) := c0
  have hSD : (Builtin.unsafeSliceData_ #[(ρ.t 37)] (ρ.t 127) #[.slice none 0 0]).run P w.drew = .ok (.pointer none) w.drew := rfl
  have mixed := L.mixed
  have t72 := L.t72; have a72 := L.a72; have z72 := L.z72; have v72 := L.v72; have u72 := run_underlying L.t72
  have t70 := L.t70; have a70 := L.a70; have z70 := L.z70; have v70 := L.v70; have u70 := run_underlying L.t70
  have t37 := L.t37; have a37 := L.a37; have z37 := L.z37; have v37 := L.v37; have u37 := run_underlying L.t37
  have t127 := L.t127; have a127 := L.a127; have z127 := L.z127; have v127 := L.v127; have u127 := run_underlying L.t127
  have t3 := L.t3; have a3 := L.a3; have z3 := L.z3; have v3 := L.v3; have u3 := run_underlying L.t3
  have t9 := L.t9; have a9 := L.a9; have z9 := L.z9; have v9 := L.v9; have u9 := run_underlying L.t9
  have t5 := X.t5; have a5 := X.a5; have z5 := X.z5; have v5 := X.v5; have u5 := run_underlying X.t5
  go_enter L.f169, Body.n169_ntmps ρ
  go_wp2
  go_region_o
  all_goals (go_wp2; go_ret; exact ⟨rfl, rfl⟩)
end
section
open Go.Shelf
def Tryz.laysStr_ren : Go.Shelf.Ren := ⟨fun | 169 => 13 | n => n, fun | 70 => 47 | 9 => 9 | 0 => 0 | 72 => 49 | 37 => 23 | 127 => 96 | 3 => 3 | 5 => 5 | n => n, fun | n => n⟩
theorem Tryz.laysStr : Go.Proofs.Lays.n169 Tryz.prog Tryz.laysStr_ren := {
  mixed := by kernel_rfl
  f169 := Tryz.func13.trans (congrArg some (by kernel_rfl))
  t0 := Tryz.underlying0
  a0 := Tryz.isAgg0
  z0 := Tryz.sizeOf0
  v0 := Tryz.zeroValue0
  t3 := Tryz.underlying3
  a3 := Tryz.isAgg3
  z3 := Tryz.sizeOf3
  v3 := Tryz.zeroValue3
  t9 := Tryz.underlying9
  a9 := Tryz.isAgg9
  z9 := Tryz.sizeOf9
  v9 := Tryz.zeroValue9
  t37 := Tryz.underlying23
  a37 := Tryz.isAgg23
  z37 := Tryz.sizeOf23
  v37 := Tryz.zeroValue23
  t70 := Tryz.underlying47
  a70 := Tryz.isAgg47
  z70 := Tryz.sizeOf47
  v70 := Tryz.zeroValue47
  t72 := Tryz.underlying49
  a72 := Tryz.isAgg49
  z72 := Tryz.sizeOf49
  v72 := Tryz.zeroValue49
  t127 := Tryz.underlying96
  a127 := Tryz.isAgg96
  z127 := Tryz.sizeOf96
  v127 := Tryz.zeroValue96 }
end
theorem Tryz.extraStr : Builder.Extra Tryz.prog Tryz.laysStr_ren where
  sizeBuilder := by kernel_rfl
  liesBuilder := by kernel_rfl
  t5 := Tryz.underlying5
  a5 := Go.Vc.run_isAgg_sc (by kernel_rfl)
  z5 := Go.Vc.run_szOf (by kernel_rfl)
  v5 := fun w => by
    have h : (Tryz.prog.info? 5).bind (·.zero) = some (.int .u8 0) := by kernel_rfl
    have e : Tryz.laysStr_ren.t 5 = 5 := rfl
    rw [e]
    cases hi : Tryz.prog.info? 5 with
    | none => rw [hi] at h; cases h
    | some i => rw [hi] at h; simp [zeroValue, typeInfo, hi] at h ⊢; simp [h]
  infoByte := by kernel_rfl
  cellsByte := by kernel_rfl
  sizeByte := by kernel_rfl
  neB5 := of_decide_eq_false (by kernel_rfl)
set_option maxHeartbeats 1000000 in
set_option maxRecDepth 100000 in
theorem Tryz.copyUsed (b : Nat) (w : World) (h0 : w.cell? ⟨b, 3, none⟩ = some (.pointer (some ⟨b, 3, none⟩))) :
    Calls Tryz.prog 119 #[.pointer (some ⟨b, 3, none⟩)] w fun e w' => e = .returned (.tuple #[]) ∧ w' = w := by
  have hj : ∃ j, Tryz.prog.info? 49 = some j := Option.isSome_iff_exists.1 (by kernel_rfl)
  obtain ⟨j, hj⟩ := hj
  go_enter Tryz.func119, Tryz.ntmps119
  go_wp2
  rw [Lib.run_neq_ptr_same w _ Tryz.underlying47 hj]
  go_wp2
  go_end0
  exact ⟨rfl, rfl⟩
set_option maxHeartbeats 1000000 in
set_option maxRecDepth 100000 in
theorem Tryz.copyFresh (b : Nat) (w : World) (h0 : w.cell? ⟨b, 3, none⟩ = some (.pointer none)) (hsh : w.shape? b = some (51, 5)) (hfz : w.frozen? ⟨b, 3, none⟩ = false) :
    Calls Tryz.prog 119 #[.pointer (some ⟨b, 3, none⟩)] w fun e w' => e = .returned (.tuple #[]) ∧ w' = w.setCell ⟨b, 3, none⟩ (.pointer (some ⟨b, 3, none⟩)) := by
  have hj : (Tryz.prog.info? 49).map (·.size) = some 2 := by kernel_rfl
  obtain ⟨j, hj, hjs⟩ := Option.map_eq_some_iff.1 hj
  have hlies : liesAt Tryz.prog Tryz.prog.depth 51 (5 / Tryz.prog.cellsOf 51) 3 49 1 = true := by kernel_rfl
  go_enter Tryz.func119, Tryz.ntmps119
  go_wp2
  rw [Lib.run_to_unsafe w ⟨b, 3, none⟩ Tryz.underlying47 Tryz.underlying320 hj (by rw [hjs]; decide) hsh (show 3 < 5 by decide)]
  simp only [Result.andThen]
  rw [Oper.upon_value]
  go_wp2
  rw [run_callFunc_extern Tryz.func186 (by kernel_rfl) (by kernel_rfl) (by kernel_rfl) (e := Extern.AbiNoEscape.same) (by kernel_rfl)]
  rw [Lib.run_noEscape]
  simp only [Result.andThen]
  rw [Oper.upon_value]
  go_wp2
  rw [Lib.run_from_unsafe w ⟨b, 3, none⟩ Tryz.underlying320 Tryz.underlying47 hj hsh hlies]
  simp only [Result.andThen]
  rw [Oper.upon_value]
  go_wp2
  go_end0
  exact ⟨rfl, rfl⟩
theorem Tryz.strCall (b g cap cells : Nat) (l : List UInt8) (w : World) (c0 : w.cell? ⟨b, 4, none⟩ = some (.slice (some ⟨g, 0, none⟩) l.length cap)) (h0 : l ≠ []) (hc : l.length ≤ cap)
    (hsh : w.shape? g = some (5, cells)) (hn : l.length ≤ cells) (h63 : l.length ≤ 9223372036854775807) (hcell : ∀ j x, l[j]? = some x → w.cell? ((⟨g, 0, none⟩ : Addr).add j) = some (.int .u8 x.toNat)) :
    Calls Tryz.prog 13 #[.pointer (some ⟨b, 3, none⟩)] w fun e w' => e = .returned (.string ⟨l.toArray⟩) ∧ w' = w.drew.freeze ⟨g, 0, none⟩ l.length :=
  YtbfolflejhkehaaGreatDoor.strCall Tryz.laysStr Tryz.extraStr b g cap cells l w c0 h0 hc hsh hn h63 hcell
theorem Tryz.strNil (b : Nat) (w : World) (c0 : w.cell? ⟨b, 4, none⟩ = some (.slice none 0 0)) :
    Calls Tryz.prog 13 #[.pointer (some ⟨b, 3, none⟩)] w fun e w' => e = .returned (.string ⟨#[]⟩) ∧ w' = w.drew := YtbfolflejhkehaaGreatDoor.strNil Tryz.laysStr Tryz.extraStr b w c0
end Go.Proofs
namespace Go.Proofs.YtbfolflejhkehaaGreatDoor
open Go Go.Vc Go.Proofs Go.Dk Go.Sc

abbrev plC (dd : Value) (ad a : Option Addr) (n c : Nat) : List Value := [.pointer none, dd, .pointer none, .pointer ad, .slice a n c]
abbrev plBox (dd : Value) (ad a : Option Addr) (n c : Nat) : Obj := .cells (Array.mk (plC dd ad a n c)) 51 (0, 0)
theorem copy_spec {h : Heap} {p : Nat} {dd : Value} {ad a : Option Addr} {n c : Nat} (hb : h[p]? = some (plBox dd ad a n c)) (had : ad = none ∨ ad = some ⟨p, 3, none⟩) :
    HC Tryz.prog 119 #[.pointer (some ⟨p, 3, none⟩)] h fun v h' => v = .tuple #[] ∧ h'.size = h.size ∧ h'[p]? = some (plBox dd (some ⟨p, 3, none⟩) a n c) ∧ Upd (fun i => i = p) h h' := by
  refine ⟨fun w hw => ?_⟩
  subst hw
  rcases had with rfl | rfl
  · refine (Tryz.copyFresh p w (cell_cells hb (k := 3) rfl) (by simp [World.shape?, hb, plBox, plC]) (by simp [World.frozen?, hb, plBox, plC])).mono fun e w' ⟨he, hw'⟩ => ?_
    subst hw'
    have hh := setCell_heap w p 3 (.pointer (some ⟨p, 3, none⟩))
    have hz : (w.setCell ⟨p, 3, none⟩ (.pointer (some ⟨p, 3, none⟩))).heap.size = w.heap.size := by rw [hh]; simp
    have ho : ∀ i, i ≠ p → (w.setCell ⟨p, 3, none⟩ (.pointer (some ⟨p, 3, none⟩))).heap[i]? = w.heap[i]? := fun i hi => by
      rw [hh, Array.getElem?_modify, if_neg (Ne.symm hi)]
    refine ⟨_, he, Sane.turn hb rfl (by rw [hz]; exact Nat.le_refl _) (fun k _ hk => ho k hk), rfl, hz, ?_, upd_of_one hz ho⟩
    rw [hh, Array.getElem?_modify, if_pos rfl, hb]; rfl
  · refine (Tryz.copyUsed p w (cell_cells hb (k := 3) rfl)).mono fun e w' ⟨he, hw'⟩ => ?_
    subst hw'
    exact ⟨_, he, Sane.refl _, rfl, rfl, hb, Upd.refl _ _⟩
/-- a player that has no registry, whose builder holds bytes. -/
def PlAt (h : Heap) (p : Nat) (l : List UInt8) : Prop := ∃ dd ad a n c, h[p]? = some (plBox dd ad a n c) ∧ (ad = none ∨ ad = some ⟨p, 3, none⟩) ∧ Vc.Own ByteE 5 (p + 1) h a n c l ∧ (l = [] → a = none ∧ n = 0 ∧ c = 0)
theorem app_bs : App Tryz.prog 23 5 ByteE.sz 1 (.int .u8 0) := ⟨by kernel_rfl, by kernel_rfl, by kernel_rfl, by kernel_rfl, rfl, by decide, by decide⟩
theorem scBs' : scT Tryz.prog 23 = true := by kernel_rfl
theorem szBs' : szOf Tryz.prog 23 = some 1 := by kernel_rfl
theorem write_spec {h : Heap} {p : Nat} {l : List UInt8} (hp : PlAt h p l) (s : Str) (hs : bytesL s ≠ []) (hl : l.length + s.size ≤ 1000000) :
    HC Tryz.prog 68 #[.pointer (some ⟨p, 3, none⟩), .string s] h fun v h' => (∃ n w, v = .tuple #[.int .i64 n, w]) ∧ h.size ≤ h'.size ∧ Keep p h h' ∧ PlAt h' p (l ++ bytesL s) := by
  obtain ⟨dd, ad, a, n, c, hb, had, ho, h0⟩ := hp
  refine HC_of_vc (args := [.pointer (some ⟨p, 3, none⟩), .string s]) (base := 19) (cuts := []) (bigs := []) hm Tryz.func68 ?_
  rw [vcBwStr]
  refine (copy_spec hb had).mono ?_
  rintro v h1 ⟨rfl, z1, b1, u1⟩
  have zp := at_lt hb
  have bl : ∀ q, blk a q → p + 1 ≤ q := fun q hq => (ho.block q hq).1
  have ho1 := ho.upd u1 fun q hq => by have := bl q hq; omega
  have hn : l.length = n := ho.1
  refine ⟨rfl, _, rfl, _, _, _, reads_load scBs' (cell_cells (b := p) (k := 4) b1 rfl), svc_append_str app_bs undS ho1 (by omega) (by omega) fun a' c' h7 o7 u7 b7 => ⟨_, _, _, rfl, _, rfl, ?_⟩⟩
  have b7' := u7.at b1 (fun hq => by have := bl _ hq; omega)
  refine svc_store_box (b := p) (k := 4) szBs' b7' (show 4 < 5 by decide) rfl (one_slice _ _ _) fun h13 z13 b13 u13 => ⟨⟨_, _, rfl⟩, ?_, ?_, ?_⟩
  · have := u7.size; omega
  · refine ((u1.keep (by omega) fun q hq => by omega).trans (u7.keep (by omega) fun q hq => by have := bl q hq; omega)).trans (u13.keep (by have := u7.size; omega) fun q hq => by omega)
  · refine ⟨dd, _, a', n + s.size, c', b13, .inr rfl, o7.upd u13 fun q hq => ?_, fun e => ?_⟩
    · have := (o7.block q hq).1; omega
    · exact absurd (List.append_eq_nil_iff.1 e).2 hs
theorem string_spec {h : Heap} {p : Nat} {l : List UInt8} (hp : PlAt h p l) (hl : l.length ≤ 1000000) :
    HC Tryz.prog 13 #[.pointer (some ⟨p, 3, none⟩)] h fun v h' => v = .string (strL l) ∧ Keep p h h' := by
  obtain ⟨dd, ad, a, n, c, hb, had, ho, h0⟩ := hp
  have zp := at_lt hb
  refine ⟨fun w hw => ?_⟩
  subst hw
  have c4 : w.cell? ⟨p, 4, none⟩ = some (.slice a n c) := cell_cells (b := p) (k := 4) hb rfl
  by_cases he : l = []
  · obtain ⟨rfl, rfl, rfl⟩ := h0 he
    subst he
    refine (Tryz.strNil p w c4).mono fun e w' ⟨he, hw'⟩ => ?_
    subst hw'
    exact ⟨_, he, Sane.same rfl, rfl, Keep.refl _ _⟩
  · have hsl := ho.sl
    obtain ⟨hn, hnc, hr⟩ := ho
    have hlp : 0 < l.length := List.length_pos_iff.2 he
    rcases hr with ⟨rfl, rfl⟩ | ⟨g, cells, rfl, hB, hg, hsz, rest, hrest⟩
    · omega
    · have hsz : cells.size = c := by rw [hsz]; exact Nat.mul_one _
      subst hn
      refine (Tryz.strCall p g c cells.size l w c4 he hnc (by simp [World.shape?, hg]) (by omega) (by omega) fun j x hx => ?_).mono fun e w' ⟨he', hw'⟩ => ?_
      · obtain ⟨q, e0, hq⟩ := hsl.get hx
        cases e0
        have := hq 0 (.int .u8 (x.toNat : Int)) rfl
        have e2 : j * ByteE.sz + 0 = j := Nat.mul_one _
        rw [e2] at this
        exact this
      · subst hw'
        have hh : (w.drew.freeze ⟨g, 0, none⟩ l.length).heap = w.heap.modify g fun
            | .cells c elem (lo, hi) => .cells c elem (if lo == hi then (0, 0 + l.length) else (min lo 0, max hi (0 + l.length)))
            | o => o := by
          unfold World.freeze
          rw [if_neg (by omega)]; rfl
        have ho : ∀ i, i ≠ g → (w.drew.freeze ⟨g, 0, none⟩ l.length).heap[i]? = w.heap[i]? := fun i hi => by
          rw [hh, Array.getElem?_modify, if_neg (Ne.symm hi)]
        have hz : (w.drew.freeze ⟨g, 0, none⟩ l.length).heap.size = w.heap.size := by rw [hh]; simp
        have e3 : (w.drew.freeze ⟨g, 0, none⟩ l.length).tape = w.tape ∧ (w.drew.freeze ⟨g, 0, none⟩ l.length).os = w.os ∧ (w.drew.freeze ⟨g, 0, none⟩ l.length).output = w.output := by
          unfold World.freeze
          rw [if_neg (by omega)]; exact ⟨rfl, rfl, rfl⟩
        refine ⟨_, he', Sane.turn hg rfl (by rw [hz]; exact Nat.le_refl _) (fun k _ hk => ho k hk) e3.1 e3.2.1 e3.2.2, rfl, ⟨by rw [hz]; exact Nat.le_refl _, fun i hi => ho i (by omega)⟩⟩
end Go.Proofs.YtbfolflejhkehaaGreatDoor
end

section
set_option linter.unusedVariables false
set_option linter.unusedSimpArgs false
namespace Go.Ce
open Go Go.Vc

/- ------------------------------------------------------------------ a tree of places -/

inductive Tri (α : Type) where
  | nil
  | node (l : Tri α) (x : Option α) (r : Tri α)
def Tri.get {α : Type} : Tri α → Nat → Option α
  | .nil, _ => none
  | .node l x r, i => match Nat.beq i 0 with
    | true => x
    | false => match Nat.beq (i % 2) 1 with
      | true => l.get (i / 2)
      | false => r.get (i / 2 - 1)
def Tri.left {α : Type} : Tri α → Tri α
  | .nil => .nil
  | .node l _ _ => l
def Tri.right {α : Type} : Tri α → Tri α
  | .nil => .nil
  | .node _ _ r => r
def Tri.top {α : Type} : Tri α → Option α
  | .nil => none
  | .node _ x _ => x
def Tri.put {α : Type} : Nat → Tri α → Nat → Option α → Tri α
  | 0, _, _, _ => .nil
  | f + 1, t, i, x => match Nat.beq i 0 with
    | true => .node t.left x t.right
    | false => match Nat.beq (i % 2) 1 with
      | true => .node (Tri.put f t.left (i / 2) x) t.top t.right
      | false => .node t.left t.top (Tri.put f t.right (i / 2 - 1) x)

def Tri.map {α β : Type} (f : α → β) : Tri α → Tri β
  | .nil => .nil
  | .node l x r => .node (Tri.map f l) (match x with | some x => some (f x) | none => none) (Tri.map f r)

/- ------------------------------------------------------------------ values -/

inductive SV where
  /-- a value in which no block of the run's stands -/
  | v (u : Value)
  /-- a text, by its bytes -/
  | str (l : List Nat)
  | ptr (i off : Nat)
  /-- a row within a block, from a cell on, with its room -/
  | sl (i off len cap : Nat)
  /-- a row that was made by growing: its room is not known -/
  | osl (i eoff k len : Nat)
  /-- an empty row, cut off a growing one at its end -/
  | esl (i e0 e k : Nat)
  | map (i : Nat)
  | fn (f : FuncId) (first cap : List SV)
  | ifc (t : TypeId) (x : SV)
  | agg (l : List SV)
  | tup (l : List SV)
  deriving Inhabited

inductive SO where
  | cells (vs : List SV) (ty : TypeId)
  /-- a row that was made by growing (z: it begins its block) -/
  | buf (vs : List SV) (ty : TypeId) (k : Nat) (z : Bool)
  /-- cells that are only read -/
  | ro (vs : List SV)
  | map (es : List (SV × SV × Nat)) (clock : Nat)
  | siter (l : List Nat) (pos : Nat)
  | miter (m since : Nat) (seen : List Nat) (stepped : Nat)
  deriving Inhabited

def SO.isRo : SO → Bool
  | .ro _ => true
  | _ => false
structure SH where
  n : Nat
  t : Tri SO
abbrev SE := Tri SV
def FU : Nat := 24
def SH.get (h : SH) (i : Nat) : Option SO := h.t.get i
def SH.put (h : SH) (i : Nat) (o : SO) : SH := ⟨h.n, h.t.put FU i (some o)⟩
def SH.kill (h : SH) (i : Nat) : SH := ⟨h.n, h.t.put FU i none⟩
def SH.new (h : SH) (o : SO) : SH := ⟨h.n + 1, h.t.put FU h.n (some o)⟩
def SH.skip (h : SH) : SH := ⟨h.n + 1, h.t⟩

def nat8 (b : UInt8) : Nat := b.toNat
def ofV : Value → SV
  | .string s => .str (s.data.toList.map nat8)
  | u => .v u
def ofVs (vs : List Value) : List SV := vs.map ofV
def isAggV : Value → Bool
  | .agg _ => true
  | _ => false
def flatB : List Value → Bool
  | [] => true
  | v :: vs => !isAggV v && flatB vs
def ofC : Value → Option SV
  | .agg cs => match flatB cs.toList with | true => some (.agg (ofVs cs.toList)) | false => none
  | u => some (ofV u)
def SV.cells : SV → List SV
  | .agg l => l
  | x => [x]

def eqN : List Nat → List Nat → Bool
  | [], [] => true
  | a :: x, b :: y => Nat.beq a b && eqN x y
  | _, _ => false
def ltN : List Nat → List Nat → Bool
  | _, [] => false
  | [], _ :: _ => true
  | a :: x, b :: y => Nat.blt a b || (Nat.beq a b && ltN x y)

/-- is a length a length? -/
def lenOk (n : Nat) : Bool := Nat.ble n 1000000

/- ------------------------------------------------------------------ operations that touch no memory -/

def binI (op : BinOp) (k : IntKind) (a b : Int) : Option SV :=
  match op with
  | .add => some (.v (.int k (k.wrap (a + b))))
  | .sub => some (.v (.int k (k.wrap (a - b))))
  | .mul => some (.v (.int k (k.wrap (a * b))))
  | .quo => match decide (b = 0) with | true => none | false => some (.v (.int k (k.wrap (a.tdiv b))))
  | .rem => match decide (b = 0) with | true => none | false => some (.v (.int k (a.tmod b)))
  | .and => some (.v (.int k (k.wrap (BitVec.ofInt k.bits a &&& BitVec.ofInt k.bits b).toNat)))
  | .or => some (.v (.int k (k.wrap (BitVec.ofInt k.bits a ||| BitVec.ofInt k.bits b).toNat)))
  | .xor => some (.v (.int k (k.wrap (BitVec.ofInt k.bits a ^^^ BitVec.ofInt k.bits b).toNat)))
  | .andNot => some (.v (.int k (k.wrap (BitVec.ofInt k.bits a &&& ~~~BitVec.ofInt k.bits b).toNat)))
  | .eql => some (.v (.bool (a == b)))
  | .neq => some (.v (.bool (a != b)))
  | .lss => some (.v (.bool (decide (a < b))))
  | .leq => some (.v (.bool (decide (a ≤ b))))
  | .gtr => some (.v (.bool (decide (a > b))))
  | .geq => some (.v (.bool (decide (a ≥ b))))
  | _ => none
def binT (op : BinOp) (a b : List Nat) : Option SV :=
  match op with
  | .add => match lenOk (a.length + b.length) with | true => some (.str (a ++ b)) | false => none
  | .eql => some (.v (.bool (eqN a b)))
  | .neq => some (.v (.bool !(eqN a b)))
  | .lss => some (.v (.bool (ltN a b)))
  | .leq => some (.v (.bool (ltN a b || eqN a b)))
  | .gtr => some (.v (.bool !(ltN a b || eqN a b)))
  | .geq => some (.v (.bool !(ltN a b)))
  | _ => none
def binS (op : BinOp) (x y : SV) : Option SV :=
  match x, y with
  | .v (.int k a), .v (.int k' b) => match op with
    | .shl => match decide (0 ≤ b) with | true => some (.v (.int k (k.wrap (a * 2 ^ (min b.toNat k.bits))))) | false => none
    | .shr => match decide (0 ≤ b) with | true => some (.v (.int k (a.fdiv (2 ^ (min b.toNat k.bits))))) | false => none
    | op => match eqKind k k' with | true => binI op k a b | false => none
  | .str a, .str b => binT op a b
  | _, _ => none

def intS : Option SV → Option Int
  | some (.v (.int _ n)) => some n
  | _ => none
/-- a place in a row, if it is one. -/
def ixOk (i : Int) (n : Nat) : Option Nat := match decide (0 ≤ i) && decide (i < n) with | true => some i.toNat | false => none
/-- bounds: from, to, room. -/
def bnds (len cap : Nat) (lo hi mx : Option Int) : Option (Nat × Nat × Nat) :=
  let l : Int := lo.getD 0
  let h : Int := hi.getD len
  let m : Int := mx.getD cap
  match decide (0 ≤ l) && decide (l ≤ h) && decide (h ≤ m) && decide (m ≤ cap) with
  | true => some (l.toNat, h.toNat, m.toNat)
  | false => none
def optI (ρ : Operand → Option SV) : Option Operand → Option (Option Int)
  | none => some none
  | some x => match intS (ρ x) with | some i => some (some i) | none => none

def partS (P : Program) (t : TypeId) (cs : List SV) (off : Nat) : Option SV :=
  match szOf P t, P.underlying t with
  | some sz, some _ => match aggT P t with
    | true => match Nat.ble (off + sz) cs.length with | true => some (.agg ((cs.drop off).take sz)) | false => none
    | false => cs[off]?
  | _, _ => none

def putS : List SV → Nat → List SV → List SV
  | cs, _, [] => cs
  | cs, off, v :: vs => putS (cs.set off v) (off + 1) vs
def fillS (place : Nat → Option (Nat × Nat)) (cells : List SV) : List (Nat × SV) → Option (List SV)
  | [] => some cells
  | (i, v) :: rest => match place i with
    | none => none
    | some (off, size) => match Nat.beq v.cells.length size && Nat.ble (off + v.cells.length) cells.length with
      | true => fillS place (putS cells off v.cells) rest
      | false => none
def partsS (ρ : Operand → Option SV) : List (Nat × Operand) → Option (List (Nat × SV))
  | [] => some []
  | (i, x) :: l => match ρ x, partsS ρ l with
    | some v, some vs => some ((i, v) :: vs)
    | _, _ => none
def zcS (P : Program) (t : TypeId) : Option (List SV) := match (P.info? t).bind (·.zero) with
  | some z => match flatB z.cells.toList with | true => some (ofVs z.cells.toList) | false => none
  | none => none
def zeroS (P : Program) (t : TypeId) : Option SV := match (P.info? t).bind (·.zero) with
  | some z => ofC z
  | none => none
def builtS (P : Program) (t : TypeId) (parts : List (Nat × SV)) : Option (List SV) :=
  match zcS P t, P.underlying t with
  | some z, some (.struct fs) => match placesOf P fs.toList with
    | some pl => fillS (pl[·]?) z parts
    | none => none
  | some z, some (.array _ e) => match szOf P e with
    | some sz => fillS (fun i => some (i * sz, sz)) z parts
    | none => none
  | _, _ => none
def argsS (ρ : Operand → Option SV) : List Operand → Option (List SV)
  | [] => some []
  | x :: l => match ρ x, argsS ρ l with
    | some v, some vs => some (v :: vs)
    | _, _ => none

def lenR : SV → Option Nat
  | .sl _ _ n _ => some n
  | .osl _ _ _ n => some n
  | .esl _ _ _ _ => some 0
  | .v (.slice none 0 0) => some 0
  | _ => none

/-- a row's part; the second: a new name is wanted, for an empty row that lies somewhere. -/
def sliceS (k : Nat) (x : SV) (lo hi mx : Option Int) : Option SV :=
  match x with
  | .sl i off len cap => match bnds len cap lo hi mx with
    | some (l, h, m) => some (.sl i (match Nat.beq m l with | true => off | false => off + l * k) (h - l) (m - l))
    | none => none
  | .osl i eoff k' len => match Nat.beq k k', mx with
    | true, some _ => match bnds len len lo hi mx with
      | some (l, h, m) => some (.sl i (match Nat.beq m l with | true => eoff * k | false => (eoff + l) * k) (h - l) (m - l))
      | none => none
    | true, none => match bnds len len lo hi none with
      | some (l, h, _) => match Nat.blt l len || Nat.beq l 0 with
        | true => some (.osl i (eoff + l) k (h - l))
        | false => some (.esl i eoff (eoff + l) k)
      | none => none
    | false, _ => none
  | .esl i e0 e k' => match Nat.beq k k', mx, bnds 0 0 lo hi none with
    | true, none, some _ => some (.esl i e0 e k')
    | _, _, _ => none
  | .v (.slice none 0 0) => match bnds 0 0 lo hi mx with
    | some _ => some (.v (.slice none 0 0))
    | none => none
  | _ => none

def peV (P : Program) (o : Oper) (ρ : Operand → Option SV) : Option SV :=
  match o.op with
  | .move x | .assign x => ρ x
  | .pick c a b => match ρ c with
    | some (.v (.bool true)) => ρ a
    | some (.v (.bool false)) => ρ b
    | _ => none
  | .nilCheck x => match ρ x with
    | some (.ptr i o) => some (.ptr i o)
    | some (.ifc t v) => some (.ifc t v)
    | some (.fn f a b) => some (.fn f a b)
    | some (.v (.pointer (some a))) => some (.v (.pointer (some a)))
    | _ => none
  | .binOp op _ x y _ => match ρ x, ρ y with | some a, some b => binS op a b | _, _ => none
  | .unOp op _ x => match op, ρ x with
    | .not, some (.v (.bool b)) => some (.v (.bool !b))
    | .neg, some (.v (.int k n)) => some (.v (.int k (k.wrap (0 - n))))
    | .xor, some (.v (.int k n)) => some (.v (.int k (k.wrap (BitVec.ofInt k.bits (match k.signed with | true => -1 | false => k.max) ^^^ BitVec.ofInt k.bits n).toNat)))
    | _, _ => none
  | .convert s d x => match P.underlying s, P.underlying d, ρ x with
    | some (.int _), some (.int k), some (.v (.int _ n)) => some (.v (.int k (k.wrap n)))
    | some .string, some .string, some (.str l) => some (.str l)
    | _, _, _ => none
  | .makeInterface t x => match P.underlying t, ρ x with
    | some (.interface _), _ => none
    | some _, some v => some (.ifc t v)
    | _, _ => none
  | .makeFunc fn first captured => match fn, argsS ρ first.toList, argsS ρ captured.toList with
    | .func f, some a, some b => some (.fn f a b)
    | _, _, _ => none
  | .fieldAddr s x f => match P.underlying s, ρ x with
    | some (.struct fs), some (.ptr i o) => match fs[f]? with
      | some fd => match szOf P fd.type with
        | some (_ + 1) => some (.ptr i (o + fd.offset))
        | _ => none
      | none => none
    | _, _ => none
  | .indexAddr t x ix => match P.underlying t, ρ x, intS (ρ ix) with
    | some (.slice e), some (.sl b o n _), some i => match szOf P e, ixOk i n with
      | some sz, some i => some (.ptr b (o + i * sz))
      | _, _ => none
    | some (.slice e), some (.osl b eo k n), some i => match szOf P e, ixOk i n with
      | some sz, some i => match Nat.beq sz k with | true => some (.ptr b (eo * k + i * sz)) | false => none
      | _, _ => none
    | some (.array n e), some (.ptr b o), some i => match szOf P e, ixOk i n with
      | some sz, some i => some (.ptr b (o + i * sz))
      | _, _ => none
    | _, _, _ => none
  | .index t x ix => match P.underlying t, ρ x, intS (ρ ix) with
    | some .string, some (.str l), some i => match ixOk i l.length with
      | some i => match l[i]? with | some b => some (.v (.int .u8 b)) | none => none
      | none => none
    | some (.array n e), some (.agg cs), some i => match szOf P e, ixOk i n with
      | some sz, some i => partS P e cs (i * sz)
      | _, _ => none
    | _, _, _ => none
  | .slice t x lo hi mx => match P.underlying t, ρ x, optI ρ lo, optI ρ hi, optI ρ mx with
    | some .string, some (.str s), some lo, some hi, some none => match bnds s.length s.length lo hi none with
      | some (l, h, _) => some (.str ((s.take h).drop l))
      | none => none
    | some (.slice e), some x, some lo, some hi, some mx => match szOf P e, mx.isSome && hi.isNone with
      | some k, false => sliceS k x lo hi mx
      | _, _ => none
    | some (.array n e), some (.ptr i off), some lo, some hi, some mx => match szOf P e, mx.isSome && hi.isNone, bnds n n lo hi mx with
      | some k, false, some (l, h, m) => some (.sl i (match Nat.beq m l with | true => off | false => off + l * k) (h - l) (m - l))
      | _, _, _ => none
    | _, _, _, _, _ => none
  | .field t x f => match P.underlying t, ρ x with
    | some (.struct fs), some (.agg cs) => match fs[f]? with
      | some fd => partS P fd.type cs fd.offset
      | none => none
    | _, _ => none
  | .extract x i => match ρ x with
    | some (.tup vs) => vs[i]?
    | _ => none
  | .build t parts => match partsS ρ parts.toList with
    | some ps => match builtS P t ps with | some cs => some (.agg cs) | none => none
    | none => none
  | .call { callee := .builtin .len, args, argTypes } => match (argTypes[0]?).bind P.underlying, (args[0]?).bind ρ with
    | some .string, some (.str l) => some (.v (.int .i64 l.length))
    | some (.slice _), some x => match lenR x with | some n => some (.v (.int .i64 n)) | none => none
    | some (.array n _), some _ => some (.v (.int .i64 n))
    | _, _ => none
  | .call { callee := .builtin .cap, args, argTypes } => match (argTypes[0]?).bind P.underlying, (args[0]?).bind ρ with
    | some (.slice _), some (.sl _ _ _ c) => some (.v (.int .i64 c))
    | some (.slice _), some (.v (.slice _ _ c)) => some (.v (.int .i64 c))
    | _, _ => none
  | _ => none

/- ------------------------------------------------------------------ operations that only look -/

def eqSc1 (t : Option TypeDesc) (x y : SV) : Option Bool :=
  match t, x, y with
  | some .bool, .v (.bool a), .v (.bool b) => some (a == b)
  | some (.pointer _), .v (.pointer none), .v (.pointer none) => some true
  | some (.pointer _), .v (.pointer none), .ptr _ _ => some false
  | some (.pointer _), .ptr _ _, .v (.pointer none) => some false
  | some (.interface _), .v .nilIface, .ifc _ _ => some false
  | some (.interface _), .ifc _ _, .v .nilIface => some false
  | some (.slice _), .v (.slice none _ _), .sl _ _ _ _ => some false
  | some (.slice _), .v (.slice none _ _), .osl _ _ _ _ => some false
  | some (.slice _), .v (.slice none _ _), .v (.slice none _ _) => some true
  | some (.slice _), .v (.slice none _ _), .esl _ _ _ _ => some false
  | some (.slice _), .esl _ _ _ _, .v (.slice none _ _) => some false
  | some (.slice _), .sl _ _ _ _, .v (.slice none _ _) => some false
  | some (.slice _), .osl _ _ _ _, .v (.slice none _ _) => some false
  | some (.map _ _), .v (.map none), .map _ => some false
  | some (.map _ _), .map _, .v (.map none) => some false
  | some (.map _ _), .v (.map none), .v (.map none) => some true
  | some (.func _ _ _), .v .nilFunc, .fn _ _ _ => some false
  | some (.func _ _ _), .fn _ _ _, .v .nilFunc => some false
  | some (.func _ _ _), .v .nilFunc, .v .nilFunc => some true
  | _, _, _ => none
/-- cells that are numbers alone. -/
def intsS : List SV → Option (List Value)
  | [] => some []
  | .v (.int k n) :: l => match intsS l with | some r => some (.int k n :: r) | none => none
  | _ => none
def eqLit : List Lit → List Lit → Option Bool
  | [], [] => some true
  | .int k a :: x, .int k' b :: y => match eqKind k k', eqLit x y with
    | true, some r => some ((a == b) && r)
    | _, _ => none
  | _, _ => none
/-- structs and rows of numbers. -/
def eqAgg (P : Program) (t : TypeId) (xs ys : List SV) : Option Bool :=
  match intsS xs, intsS ys, P.keyTypeAt 4 t && !P.eqGuardType P.depth t with
  | some a, some b, true => match (Value.agg a.toArray).formed P t && (Value.agg b.toArray).formed P t, P.keyLits 4 t a, P.keyLits 4 t b with
    | true, some la, some lb => eqLit la lb
    | _, _, _ => none
  | _, _, _ => none
def eqS (P : Program) (t : TypeId) (x y : SV) : Option Bool :=
  match x, y with
  | .agg xs, .agg ys => eqAgg P t xs ys
  | .ptr i a, .ptr j b => match P.underlying t with
    | some (.pointer e) => match szOf P e with
      | some (_ + 1) => match Nat.beq i j with | true => some (Nat.beq a b) | false => none
      | _ => none
    | _ => none
  | x, y => eqSc1 (P.underlying t) x y

def isCn : Operand → Bool
  | .const _ => true
  | _ => false
def isNilI : SV → Bool
  | .v .nilIface => true
  | _ => false
/-- a comparison, with its operands (the literal nil held against a nil value of an interface type). -/
def eqO (P : Program) (t : TypeId) (x y : Operand) (a b : SV) : Option Bool :=
  match isNilI a && isNilI b with
  | true => match isCn x || isCn y, P.underlying t with
    | true, some (.interface _) => some true
    | _, _ => none
  | false => eqS P t a b

def bytesS : List SV → Option (List Nat)
  | [] => some []
  | .v (.int .u8 n) :: l => match decide (0 ≤ n) && decide (n < 256), bytesS l with | true, some r => some (n.toNat :: r) | _, _ => none
  | _ => none
/-- so many cells of a row, from its first on. -/
def cellsAt (T : SH) (i off n : Nat) : Option (List SV) :=
  match T.get i with
  | some (.cells vs _) => match Nat.ble (off + n) vs.length with | true => some ((vs.drop off).take n) | false => none
  | some (.buf vs _ _ _) => match Nat.ble (off + n) vs.length with | true => some ((vs.drop off).take n) | false => none
  | some (.ro vs) => match Nat.ble (off + n) vs.length with | true => some ((vs.drop off).take n) | false => none
  | _ => none
def rowS (T : SH) (k : Nat) : SV → Option (List SV)
  | .sl i off n _ => match Nat.beq n 0 with | true => some [] | false => cellsAt T i off (n * k)
  | .osl i eoff k' n => match Nat.beq k k' with
    | true => match Nat.beq n 0 with | true => some [] | false => cellsAt T i (eoff * k) (n * k)
    | false => none
  | .esl _ _ _ _ => some []
  | .v (.slice none 0 0) => some []
  | _ => none
def loadS (P : Program) (T : SH) (t : TypeId) (x : SV) : Option SV :=
  match x, szOf P t, P.underlying t with
  | .ptr i off, some sz, some _ => match cellsAt T i off sz with
    | some cs => match aggT P t with
      | true => some (.agg cs)
      | false => match cs with | [v] => some v | _ => none
    | none => none
  | _, _, _ => none
def findS : List (SV × SV × Nat) → List Nat → Option (SV × SV × Nat)
  | [], _ => none
  | (k, v, b) :: es, q => match k with
    | .str s => match eqN q s with | true => some (k, v, b) | false => findS es q
    | _ => none
def keysOk : List (SV × SV × Nat) → Bool
  | [] => true
  | (.str _, _, _) :: es => keysOk es
  | _ => false

/-- a look-up's value, with whether it was there. -/
def okV (ok : Bool) (v : SV) (b : Bool) : SV := match ok with | true => .tup [v, .v (.bool b)] | false => v
def lookS (P : Program) (T : SH) (t : TypeId) (x ix : SV) (ok : Bool) : Option SV :=
  match P.underlying t with
  | some (.map kt et) => match P.underlying kt, ix, zeroS P et with
    | some .string, .str q, some z =>
      let r : Option (SV × Bool) := match x with
        | .v (.map none) => some (z, false)
        | .map i => match T.get i with
          | some (.map es _) => match keysOk es with
            | true => match findS es q with | some (_, v, _) => some (v, true) | none => some (z, false)
            | false => none
          | _ => none
        | _ => none
      match r with
      | some (v, b) => some (okV ok v b)
      | none => none
    | _, _, _ => none
  | _ => none

def reV (P : Program) (o : Oper) (ρ : Operand → Option SV) (T : SH) : Option SV :=
  match o.op with
  | .binOp op t x y _ => match ρ x, ρ y with
    | some a, some b => match eqO P t x y a b with
      | some r => match op with
        | .eql => some (.v (.bool r))
        | .neq => some (.v (.bool !r))
        | _ => none
      | none => none
    | _, _ => none
  | .convert s d x => match P.underlying s, P.underlying d, ρ x with
    | some (.slice e), some .string, some v => match P.underlying e with
      | some (.int .u8) => match rowS T 1 v with
        | some cs => match bytesS cs with | some l => some (.str l) | none => none
        | none => none
      | _ => none
    | _, _, _ => none
  | .load t a => match ρ a with | some x => loadS P T t x | none => none
  | .lookup t x ix ok => match ρ x, ρ ix with | some a, some b => lookS P T t a b ok | _, _ => none
  | .call { callee := .builtin .len, args, argTypes } => match (argTypes[0]?).bind P.underlying, (args[0]?).bind ρ with
    | some (.map _ _), some (.map i) => match T.get i with | some (.map es _) => some (.v (.int .i64 es.length)) | _ => none
    | some (.map _ _), some (.v (.map none)) => some (.v (.int .i64 0))
    | _, _ => none
  | .call { callee := .builtin .min, args, .. } => match argsS ρ args.toList with
    | some [.v (.int k a), .v (.int _ b)] => some (.v (.int k (match decide (b < a) with | true => b | false => a)))
    | _ => none
  | .call { callee := .builtin .max, args, .. } => match argsS ρ args.toList with
    | some [.v (.int k a), .v (.int _ b)] => some (.v (.int k (match decide (b > a) with | true => b | false => a)))
    | _ => none
  | _ => none
end Go.Ce
end
