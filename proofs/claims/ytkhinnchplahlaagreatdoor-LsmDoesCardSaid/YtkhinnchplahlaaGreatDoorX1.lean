/-
  Texts of this seat, laid one behind the other: VcH VcM VcN VcP VcQ VcR VcT VcU VcW VcX VcY VcZ DkA KvA KvC St1 KvB KvC0 VcSo CdA G1 Dk1 VcV DkS C1g PgA. Conditions: none.
-/
import Derived.Test.YtkhinnchplahlaaGreatDoorX0
import Derived.Laws.StructEq
import Derived.Maps.RangeRun
import Derived.Laws.IdiomStrings
import Derived.Laws.BytesArg
import Derived.Laws.Pointers
import Derived.Laws.Small
import Derived.WalkKit
import Derived.ProofKit
import Derived.OpenShut
import Derived.ShutString
import Derived.ChangeOld
import Derived.Below
import Derived.Deep.SlicePairs
import Derived.WalkArith
import Derived.Test.YtkhinnchplahlaaGreatDoorProg
import Derived.KernelRfl
import Derived.Shelf.SlSortCmp.WholeK
import Derived.Shelf.SlSortCmp.NoneTotal
import Derived.Shelf.Lay
import Derived.Shelf.SlGeneric
import Derived.Ground.SlsfProg
import Derived.Laws.MakeOwn
section
set_option linter.unusedSimpArgs false
set_option linter.unusedVariables false
namespace Go.Vc
open Go

def cell (h : Heap) (p : Addr) : Option Value :=
  match h[p.block]? with
  | some (.cells c _ _) => if p.spot.isSome then none else c[p.off]?
  | _ => none
def froz (h : Heap) (p : Addr) : Bool :=
  match h[p.block]? with
  | some (.cells _ _ (lo, hi)) => lo ≤ p.off && p.off < hi
  | _ => false
theorem cell_eq (w : World) (p : Addr) : w.cell? p = cell w.heap p := rfl
theorem froz_eq (w : World) (p : Addr) : w.frozen? p = froz w.heap p := rfl
theorem cell_lt {h : Heap} {p : Addr} {v : Value} (hc : cell h p = some v) : p.block < h.size := by
  unfold cell at hc
  by_cases hb : p.block < h.size
  · exact hb
  · rw [Array.getElem?_eq_none (by omega)] at hc; cases hc
theorem cell_congr {h h' : Heap} {p : Addr} (e : h'[p.block]? = h[p.block]?) : cell h' p = cell h p := by unfold cell; rw [e]
theorem Addr.add_add (p : Addr) (a b : Nat) : (p.add a).add b = p.add (a + b) := by
  unfold Addr.add
  by_cases ha : a = 0 <;> by_cases hb : b = 0 <;> simp [ha, hb]
  omega
theorem Addr.add_block (p : Addr) (a : Nat) : (p.add a).block = p.block := by unfold Addr.add; split <;> rfl
theorem Addr.add_row (b o k : Nat) : (⟨b, o, none⟩ : Addr).add k = ⟨b, o + k, none⟩ := by unfold Addr.add; split <;> simp_all

/-- below B nothing has turned. -/
structure Keep (B : Nat) (h h' : Heap) : Prop where
  size : h.size ≤ h'.size
  block : ∀ b, b < B → h'[b]? = h[b]?
theorem Keep.refl (B : Nat) (h : Heap) : Keep B h h := ⟨Nat.le_refl _, fun _ _ => rfl⟩
theorem Keep.trans {B : Nat} {a b c : Heap} (h : Keep B a b) (k : Keep B b c) : Keep B a c :=
  ⟨Nat.le_trans h.size k.size, fun i hi => (k.block i hi).trans (h.block i hi)⟩
theorem Keep.mono {B C : Nat} {a b : Heap} (h : Keep B a b) (hc : C ≤ B) : Keep C a b := ⟨h.size, fun i hi => h.block i (Nat.lt_of_lt_of_le hi hc)⟩
theorem Keep.cell {B : Nat} {h h' : Heap} (k : Keep B h h') {p : Addr} (hp : p.block < B) : Vc.cell h' p = Vc.cell h p := cell_congr (k.block _ hp)
theorem Keep.cell_some {h h' : Heap} (k : Keep h.size h h') {p : Addr} {v : Value} (hc : Vc.cell h p = some v) : Vc.cell h' p = some v := by
  rw [k.cell (cell_lt hc)]; exact hc
theorem Keep.push (B : Nat) (h : Heap) (o : Obj) (hB : B ≤ h.size) : Keep B h (h.push o) :=
  ⟨by simp, fun b hb => by rw [Array.getElem?_push, if_neg (by omega)]⟩
theorem push_at (h : Heap) (o : Obj) : (h.push o)[h.size]? = some o := by simp
theorem push_old (h : Heap) (o : Obj) {b : Nat} (hb : b < h.size) : (h.push o)[b]? = h[b]? := by rw [Array.getElem?_push, if_neg (by omega)]

/-- what has turned lies in blocks of S. -/
structure Upd (S : Nat → Prop) (h h' : Heap) : Prop where
  size : h.size ≤ h'.size
  block : ∀ b, b < h.size → ¬ S b → h'[b]? = h[b]?
theorem Upd.refl (S : Nat → Prop) (h : Heap) : Upd S h h := ⟨Nat.le_refl _, fun _ _ _ => rfl⟩
theorem Upd.trans {S : Nat → Prop} {a b c : Heap} (h : Upd S a b) (k : Upd S b c) : Upd S a c :=
  ⟨Nat.le_trans h.size k.size, fun i hi hs => (k.block i (Nat.lt_of_lt_of_le hi h.size) hs).trans (h.block i hi hs)⟩
theorem Upd.mono {S T : Nat → Prop} {a b : Heap} (h : Upd S a b) (hs : ∀ i, S i → T i) : Upd T a b := ⟨h.size, fun i hi ht => h.block i hi fun s => ht (hs i s)⟩
theorem Upd.keep {S : Nat → Prop} {B : Nat} {a b : Heap} (h : Upd S a b) (hB : B ≤ a.size) (hs : ∀ i, S i → B ≤ i) : Keep B a b :=
  ⟨h.size, fun i hi => h.block i (Nat.lt_of_lt_of_le hi hB) fun s => absurd (hs i s) (by omega)⟩
theorem Keep.upd {a b : Heap} (h : Keep a.size a b) (S : Nat → Prop) : Upd S a b := ⟨h.size, fun i hi _ => h.block i hi⟩
def blk (a : Option Addr) (b : Nat) : Prop := ∃ p, a = some p ∧ p.block = b

/- ------------------------------------------------------------------ reading -/

def scT (P : Program) (t : TypeId) : Bool := match P.underlying t with | some (.struct _) | some (.array _ _) | none => false | _ => true
theorem run_isAgg_sc {P : Program} {t : TypeId} (ht : scT P t = true) (w : World) : (isAgg t).run P w = .ok false w := by
  unfold scT at ht
  cases hu : P.underlying t with
  | none => simp [hu] at ht
  | some d => cases d <;> simp_all [isAgg, run_underlying hu]
theorem reads_load {P : Program} {t : TypeId} {h : Heap} {p : Addr} {v : Value} (ht : scT P t = true) (hc : cell h p = some v) :
    Reads P (Instr.loadAt t (.pointer (some p))) h v :=
  ⟨fun w hw => by
    subst hw
    simp only [Instr.loadAt, Instr.sureAddr, Sem.run_bind, Sem.run_pure, Result.andThen_ok, loadVar, run_isAgg_sc ht, Bool.false_eq_true, if_false, run_load, cell_eq, hc]⟩

theorem run_loadCells {P : Program} {w : World} {p : Addr} {n : Nat} {cs : List Value} (hn : cs.length = n) (hc : ∀ j v, cs[j]? = some v → cell w.heap (p.add j) = some v) :
    (loadCells p n).run P w = .ok cs.toArray w := by
  have key : ∀ (k i : Nat) (acc : Array Value), i + k = n → (loadCellsFrom p i k acc).run P w = .ok (acc ++ (cs.drop i).toArray) w := by
    intro k
    induction k with
    | zero => intro i acc h; simp [loadCellsFrom]; omega
    | succ k ih =>
      intro i acc h
      have hi : i < cs.length := by omega
      have hv := hc i cs[i] (List.getElem?_eq_getElem hi)
      simp only [loadCellsFrom, Sem.run_bind, run_load, cell_eq, hv, Result.andThen_ok]
      rw [ih (i + 1) _ (by omega), List.drop_eq_getElem_cons hi]
      simp
  rw [loadCells, key n 0 #[] (by omega)]
  simp

def agT (P : Program) (t : TypeId) (n : Nat) : Bool := aggT P t && (match szOf P t with | some m => Nat.beq m n | none => false)
theorem agT_spec {P : Program} {t : TypeId} {n : Nat} (h : agT P t n = true) : (∀ w, (isAgg t).run P w = .ok true w) ∧ szOf P t = some n := by
  simp only [agT, Bool.and_eq_true] at h
  constructor
  · intro w
    have ha := h.1
    unfold aggT at ha
    cases hu : P.underlying t with
    | none => simp [hu] at ha
    | some d => cases d <;> simp_all [isAgg, run_underlying hu]
  · cases hs : szOf P t with
    | none => simp [hs] at h
    | some m => simp only [hs] at h; rw [Nat.eq_of_beq_eq_true h.2]
theorem reads_load_agg {P : Program} {t : TypeId} {n : Nat} {h : Heap} {p : Addr} {cs : List Value} (ht : agT P t n = true) (hn : cs.length = n)
    (hc : ∀ j v, cs[j]? = some v → cell h (p.add j) = some v) : Reads P (Instr.loadAt t (.pointer (some p))) h (.agg cs.toArray) :=
  ⟨fun w hw => by
    subst hw
    obtain ⟨h1, h2⟩ := agT_spec ht
    simp only [Instr.loadAt, Instr.sureAddr, Sem.run_bind, Sem.run_pure, Result.andThen_ok, loadVar, h1, if_true, run_szOf h2, run_loadCells hn hc]⟩

/- ------------------------------------------------------------------ slices that read as lists -/

structure Enc (α : Type) where
  sz : Nat
  enc : α → List Value
  len : ∀ x, (enc x).length = sz
  one : ∀ x v, v ∈ enc x → (∀ c, v ≠ .agg c) ∧ (∀ c, v ≠ .tuple c)

section
variable {α : Type} {E : Enc α}

/-- from an address on lie elements. -/
def At (E : Enc α) (h : Heap) (p : Addr) (xs : List α) : Prop :=
  ∀ i x, xs[i]? = some x → ∀ j v, (E.enc x)[j]? = some v → cell h (p.add (i * E.sz + j)) = some v
/-- a slice of so many elements reads as a list. -/
def Sl (E : Enc α) (h : Heap) (a : Option Addr) (n : Nat) (xs : List α) : Prop :=
  xs.length = n ∧ (xs = [] ∨ ∃ p, a = some p ∧ At E h p xs)

theorem Sl.nil (h : Heap) (a : Option Addr) : Sl E h a 0 [] := ⟨rfl, .inl rfl⟩
theorem Sl.len {h : Heap} {a : Option Addr} {n : Nat} {xs : List α} (hs : Sl E h a n xs) : xs.length = n := hs.1
theorem At.keep (hz : 0 < E.sz) {h h' : Heap} {p : Addr} {xs : List α} (hs : At E h p xs) (k : Keep h.size h h') : At E h' p xs :=
  fun i x hx j v hv => k.cell_some (hs i x hx j v hv)
theorem Sl.keep {h h' : Heap} {a : Option Addr} {n : Nat} {xs : List α} (hs : Sl E h a n xs) (k : Keep h.size h h') : Sl E h' a n xs :=
  ⟨hs.1, hs.2.imp id fun ⟨p, e, hp⟩ => ⟨p, e, fun i x hx j v hv => k.cell_some (hp i x hx j v hv)⟩⟩
theorem Sl.get {h : Heap} {a : Option Addr} {n : Nat} {xs : List α} (hs : Sl E h a n xs) {i : Nat} {x : α} (hx : xs[i]? = some x) :
    ∃ p, a = some p ∧ ∀ j v, (E.enc x)[j]? = some v → cell h (p.add (i * E.sz + j)) = some v := by
  rcases hs.2 with rfl | ⟨p, e, hp⟩
  · simp at hx
  · exact ⟨p, e, hp i x hx⟩
theorem Sl.head {h : Heap} {a : Option Addr} {n : Nat} {x : α} {xs : List α} (hs : Sl E h a n (x :: xs)) :
    ∃ p, a = some p ∧ ∀ j v, (E.enc x)[j]? = some v → cell h (p.add j) = some v := by
  obtain ⟨p, e, hp⟩ := hs.get (i := 0) (x := x) rfl
  exact ⟨p, e, fun j v hv => by have := hp j v hv; rwa [Nat.zero_mul, Nat.zero_add] at this⟩
/- ------------------------------------------------------------------ a slice of the call's own -/

def Own (E : Enc α) (T : TypeId) (B : Nat) (h : Heap) (a : Option Addr) (n c : Nat) (xs : List α) : Prop :=
  xs.length = n ∧ n ≤ c ∧ ((a = none ∧ c = 0) ∨ ∃ b cells, a = some ⟨b, 0, none⟩ ∧ B ≤ b ∧ h[b]? = some (.cells cells T (0, 0)) ∧ cells.size = c * E.sz ∧
    ∃ rest, cells.toList = xs.flatMap E.enc ++ rest)

theorem Own.nil (T : TypeId) (B : Nat) (h : Heap) : Vc.Own E T B h none 0 0 [] := ⟨rfl, Nat.le_refl _, .inl ⟨rfl, rfl⟩⟩
theorem Own.block {T : TypeId} {B : Nat} {h : Heap} {a : Option Addr} {n c : Nat} {xs : List α} (ho : Vc.Own E T B h a n c xs) : ∀ b, blk a b → B ≤ b ∧ b < h.size := by
  rintro b ⟨p, rfl, rfl⟩
  rcases ho.2.2 with ⟨e, _⟩ | ⟨b, cells, e, hB, hb, _⟩
  · cases e
  · cases e
    refine ⟨hB, ?_⟩
    by_cases hlt : b < h.size
    · exact hlt
    · rw [Array.getElem?_eq_none (by omega)] at hb; cases hb
theorem flat_get (xs : List α) : ∀ {i : Nat} {x : α} {j : Nat} {v : Value}, xs[i]? = some x → (E.enc x)[j]? = some v → (xs.flatMap E.enc)[i * E.sz + j]? = some v := by
  induction xs with
  | nil => intro i x j v h; simp at h
  | cons y ys ih =>
    intro i x j v hx hv
    cases i with
    | zero =>
      simp at hx; subst hx
      rw [List.flatMap_cons, Nat.zero_mul, Nat.zero_add]
      have hj := (List.getElem?_eq_some_iff.1 hv).1
      rw [List.getElem?_append_left hj]; exact hv
    | succ i =>
      have := ih (i := i) (x := x) (j := j) (v := v) (by simpa using hx) hv
      rw [List.flatMap_cons, List.getElem?_append_right (by rw [E.len, Nat.add_mul]; omega), E.len,
        show (i + 1) * E.sz + j - E.sz = i * E.sz + j by rw [Nat.add_mul]; omega]
      exact this
theorem flat_len (xs : List α) : (xs.flatMap E.enc).length = xs.length * E.sz := by
  induction xs with
  | nil => simp
  | cons x xs ih => simp [List.flatMap_cons, E.len, ih, Nat.add_mul]; omega
theorem Own.sl {T : TypeId} {B : Nat} {h : Heap} {a : Option Addr} {n c : Nat} {xs : List α} (ho : Vc.Own E T B h a n c xs) : Sl E h a n xs := by
  obtain ⟨hl, hc, hr⟩ := ho
  refine ⟨hl, ?_⟩
  rcases hr with ⟨rfl, rfl⟩ | ⟨b, cells, rfl, hB, hb, hsz, rest, hrest⟩
  · exact .inl (List.eq_nil_of_length_eq_zero (by omega))
  · refine .inr ⟨_, rfl, fun i x hx j v hv => ?_⟩
    have hf := flat_get (E := E) xs hx hv
    have hlt := (List.getElem?_eq_some_iff.1 hf).1
    rw [Addr.add_row]
    unfold cell
    simp only [hb, Option.isSome_none, Bool.false_eq_true, if_false, Nat.zero_add]
    rw [← Array.getElem?_toList, hrest, List.getElem?_append_left hlt]
    exact hf
theorem Own.upd {T : TypeId} {B : Nat} {h h' : Heap} {a : Option Addr} {n c : Nat} {xs : List α} {S : Nat → Prop} (ho : Vc.Own E T B h a n c xs) (u : Upd S h h') (hs : ∀ b, blk a b → ¬ S b) :
    Vc.Own E T B h' a n c xs := by
  obtain ⟨hl, hc, hr⟩ := ho
  refine ⟨hl, hc, hr.imp id ?_⟩
  rintro ⟨b, cells, rfl, hB, hb, rest⟩
  have hlt : b < h.size := by
    by_cases hlt : b < h.size
    · exact hlt
    · rw [Array.getElem?_eq_none (by omega)] at hb; cases hb
  exact ⟨b, cells, rfl, hB, by rw [u.block b hlt (hs b ⟨_, rfl, rfl⟩)]; exact hb, rest⟩
end

/- ------------------------------------------------------------------ writing into a row -/

theorem setCell_heap (w : World) (b o : Nat) (v : Value) : (w.setCell ⟨b, o, none⟩ v).heap = w.heap.modify b fun
    | .cells c elem frozen => .cells (c.setIfInBounds o v) elem frozen
    | x => x := by
  have e : (fun x : Obj => match x with | .cells c elem frozen => Obj.cells (if (⟨b, o, none⟩ : Addr).spot.isSome then c else c.setIfInBounds o v) elem frozen | x => x) =
      (fun x : Obj => match x with | .cells c elem frozen => Obj.cells (c.setIfInBounds o v) elem frozen | x => x) := by
    funext x; cases x <;> rfl
  exact congrArg (w.heap.modify b) e

theorem run_storeCells {P : Program} (b T : Nat) : ∀ (vs : List Value) (o : Nat) (cells : Array Value) (w : World) (i : Nat), w.heap[b]? = some (.cells cells T (0, 0)) → o + i + vs.length ≤ cells.size →
    (∀ v ∈ vs, (∀ c, v ≠ .agg c) ∧ (∀ c, v ≠ .tuple c)) →
    ∃ w' cells', (storeCells ⟨b, o, none⟩ vs i).run P w = .ok () w' ∧ Sane w w' ∧ w'.heap.size = w.heap.size ∧ w'.heap[b]? = some (.cells cells' T (0, 0)) ∧ cells'.size = cells.size ∧
      cells'.toList = putL cells.toList (o + i) vs ∧ ∀ k, k ≠ b → w'.heap[k]? = w.heap[k]?
  | [], o, cells, w, i, hb, hl, hv => ⟨w, cells, rfl, Sane.refl w, rfl, hb, rfl, rfl, fun _ _ => rfl⟩
  | v :: vs, o, cells, w, i, hb, hl, hv => by
    simp only [List.length_cons] at hl
    have hlt : b < w.heap.size := by
      by_cases hlt : b < w.heap.size
      · exact hlt
      · rw [Array.getElem?_eq_none (by omega)] at hb; cases hb
    have hcell : w.cell? ⟨b, o + i, none⟩ = some (cells[o + i]'(by omega)) := by
      unfold World.cell?
      simp only [hb, Option.isSome_none, Bool.false_eq_true, if_false]
      rw [Array.getElem?_eq_getElem (by omega)]
    have hfr : w.frozen? ⟨b, o + i, none⟩ = false := by unfold World.frozen?; simp [hb]
    have hst : (store ⟨b, o + i, none⟩ v).run P w = .ok () (w.setCell ⟨b, o + i, none⟩ v) := by
      have h1 := hv v List.mem_cons_self
      unfold store
      cases v <;> first
        | exact absurd rfl (h1.1 _)
        | exact absurd rfl (h1.2 _)
        | simp [Sem.run, hcell, hfr]
    have hb' : (w.setCell ⟨b, o + i, none⟩ v).heap[b]? = some (.cells (cells.setIfInBounds (o + i) v) T (0, 0)) := by
      rw [setCell_heap, Array.getElem?_modify, if_pos rfl, hb, Option.map_some]
    obtain ⟨w', cells', h1, h2, h3, h4, h5, h6, h7⟩ := run_storeCells (P := P) b T vs o (cells.setIfInBounds (o + i) v) (w.setCell ⟨b, o + i, none⟩ v) (i + 1) hb' (by simp; omega) (fun u hu => hv u (List.mem_cons_of_mem _ hu))
    refine ⟨w', cells', ?_, ?_, ?_, h4, ?_, ?_, fun k hk => ?_⟩
    · simp only [storeCells, Addr.add_row, Sem.run_bind, hst, Result.andThen_ok]; exact h1
    · exact Sane.trans (b := w.setCell ⟨b, o + i, none⟩ v) (Sane.turn hb rfl (by simp [World.setCell]) (fun k _ hk => by rw [setCell_heap, Array.getElem?_modify, if_neg (Ne.symm hk)])) h2
    · rw [h3]; simp [World.setCell]
    · rw [h5]; simp
    · rw [h6]; simp [putL, Nat.add_assoc]
    · rw [h7 k hk, setCell_heap, Array.getElem?_modify, if_neg (Ne.symm hk)]

theorem putL_len : ∀ (vs cs : List Value) (k : Nat), (putL cs k vs).length = cs.length
  | [], _, _ => rfl
  | v :: vs, cs, k => by simp [putL, putL_len vs]
theorem putL_prefix : ∀ (vs xs rest : List Value), vs.length ≤ rest.length → putL (xs ++ rest) xs.length vs = xs ++ vs ++ rest.drop vs.length
  | [], xs, rest, _ => by simp [putL]
  | v :: vs, xs, [], h => by simp at h
  | v :: vs, xs, r :: rest, h => by
    simp only [putL]
    rw [List.set_append_right _ _ (Nat.le_refl _), Nat.sub_self, List.set_cons_zero, show xs ++ v :: rest = (xs ++ [v]) ++ rest by simp,
      show xs.length + 1 = (xs ++ [v]).length by simp, putL_prefix vs (xs ++ [v]) rest (by simpa using h)]
    simp

/- ------------------------------------------------------------------ a slice's literal; append -/

def zerosL (z : List Value) (n : Nat) : List Value := (List.range n).map fun i => z.getD (i % z.length) default
/-- the cells of a slice's literal. -/
def bsCells (P : Program) (t : TypeId) (n : Nat) (parts : List (Nat × Value)) : Option (TypeId × List Value) :=
  match P.underlying t with
  | some (.slice e) => match szOf P e, (P.info? e).bind (·.zero) with
    | some sz, some z => match Nat.ble (n * sz) 4096 && !(Nat.beq (n * sz) 0) with
      | true => match fillL (fun i => some (i * sz, sz)) (zerosL z.cells.toList (n * sz)) parts with
        | some cs => some (e, cs)
        | none => none
      | false => none
    | _, _ => none
  | _ => none
theorem svc_buildSlice {P : Program} {t : TypeId} {n : Nat} {parts : List (Nat × Value)} {e : TypeId} {cs : List Value} {h : Heap} {K : Value → Heap → Prop}
    (hb : bsCells P t n parts = some (e, cs)) (k : K (.slice (some ⟨h.size, 0, none⟩) n n) (h.push (.cells cs.toArray e (0, 0)))) :
    SVC P (Instr.buildSlice t n parts.toArray) h K := by
  refine ⟨fun w hw => ?_⟩
  subst hw
  unfold bsCells at hb
  cases hu : P.underlying t with
  | none => simp [hu] at hb
  | some d =>
    cases d <;> simp only [hu] at hb <;> try (cases hb; done)
    case slice e' =>
      cases hs : szOf P e' with
      | none => simp [hs] at hb
      | some sz =>
        cases hi : P.info? e' with
        | none => simp [hs, hi] at hb
        | some inf =>
          cases hz : inf.zero with
          | none => simp [hs, hi, hz] at hb
          | some z =>
            simp only [hs, hi, hz, Option.bind_some] at hb
            cases hc : Nat.ble (n * sz) 4096 && !(Nat.beq (n * sz) 0) with
            | false => simp [hc] at hb
            | true =>
              simp only [hc] at hb
              simp only [Bool.and_eq_true, Bool.not_eq_true'] at hc
              have h1 := Nat.le_of_ble_eq_true hc.1
              have h2 := Nat.ne_of_beq_eq_false hc.2
              cases hf : fillL (fun i => some (i * sz, sz)) (zerosL z.cells.toList (n * sz)) parts with
              | none => simp [hf] at hb
              | some cs' =>
                simp only [hf, Option.some.injEq, Prod.mk.injEq] at hb
                obtain ⟨rfl, rfl⟩ := hb
                have hz0 : ((Array.range (n * sz)).map (z.cells[· % z.cells.size]!)) = (zerosL z.cells.toList (n * sz)).toArray := by
                  apply Array.toList_inj.1
                  simp only [Array.toList_map, Array.toList_range, zerosL]
                  refine List.map_congr_left fun i _ => ?_
                  simp [getElem!_def, List.getD_eq_getElem?_getD]
                  cases z.cells[i % z.cells.size]? <;> rfl
                have hfill := fillL_eq (place' := fun i => some (i * sz, sz)) (fun _ => rfl) hf
                refine ⟨.slice (some ⟨w.heap.size, 0, none⟩) n n, { w with heap := w.heap.push (.cells cs'.toArray e' (0, 0)) }, ?_, Sane.push rfl, k⟩
                · simp only [Instr.buildSlice, Sem.run_bind, run_underlying hu, Result.andThen_ok, run_szOf hs]
                  rw [if_neg (by omega)]
                  have hzv : (zeroValue e').run P w = .ok z w := by simp [zeroValue, typeInfo, hi, hz]
                  simp only [if_neg h2, Sem.run_bind, hzv, Result.andThen_ok, Sem.run_pure, hz0, hfill]
                  rfl

/-- what is known of an append's types. -/
structure App (P : Program) (T e : TypeId) (sz by_ : Nat) (z : Value) : Prop where
  und : P.underlying T = some (.slice e)
  size : szOf P e = some sz
  bytes : (P.info? e).map (·.bytes) = some by_
  zero : (P.info? e).bind (·.zero) = some z
  zlen : z.cells.size = sz
  pos : 0 < sz
  bpos : 0 < by_

theorem nextcap (n c : Nat) (hc : c < n) : ∀ r k, k ≤ 2 * n → Builtin.growBy n r k ≤ 2 * n + 192 + n / 4 + n
  | 0, k, h => by simp [Builtin.growBy]; omega
  | r + 1, k, h => by
    simp only [Builtin.growBy]
    split
    · omega
    · rename_i hk
      have : k < n := by omega
      by_cases h2 : k + (k + 768) / 4 ≤ 2 * n
      · exact nextcap n c hc r _ h2
      · cases r with
        | zero => simp [Builtin.growBy]; omega
        | succ r => simp only [Builtin.growBy]; rw [if_pos (by omega)]; omega
theorem nextslicecap_le (n c : Nat) (hc : c < n) : Builtin.nextslicecap n c ≤ 4 * n + 192 := by
  unfold Builtin.nextslicecap
  split
  · omega
  · split
    · omega
    · have := nextcap n c hc 4 c (by omega)
      omega

theorem svc_append {α : Type} {E : Enc α} {P : Program} {T e : TypeId} {bytes : Nat} {z : Value} {B : Nat} {h : Heap} {a b : Option Addr} {n c m c2 : Nat} {xs ys : List α} {ty : TypeId} {K : Value → Heap → Prop}
    (hA : App P T e E.sz bytes z) (ho : Vc.Own E e B h a n c xs) (hB : B ≤ h.size) (hs : Sl E h b m ys) (hroom : (4 * (n + m) + 192) * bytes ≤ 2 ^ 48)
    (k : ∀ a' c' h', Vc.Own E e B h' a' (n + m) c' (xs ++ ys) → Upd (blk a) h h' → (∀ i, blk a' i → blk a i ∨ i = h.size) → K (.slice a' (n + m) c') h') :
    SVC P (Builtin.append_ #[T, T] ty #[.slice a n c, .slice b m c2]) h K := by
  refine ⟨fun w hw => ?_⟩
  subst hw
  obtain ⟨hu, hsz, hby, hze, hzl, hpos, hbpos⟩ := hA
  have hsizeOf := fun w : World => run_szOf (P := P) hsz w
  have hti : ∀ w : World, ∃ i, P.info? e = some i ∧ (typeInfo e).run P w = .ok i w ∧ i.bytes = bytes ∧ i.zero = some z := fun w => by
    cases hi : P.info? e with
    | none => simp [hi] at hby
    | some i => simp [hi] at hby hze; exact ⟨i, rfl, by simp [typeInfo, hi], hby, hze⟩
  have hzero : ∀ w : World, (zeroValue e).run P w = .ok z w := fun w => by
    obtain ⟨i, h1, h2, h3, h4⟩ := hti w
    simp [zeroValue, h2, h4]
  have hysl : (ys.flatMap E.enc).length = m * E.sz := by rw [flat_len, hs.1]
  -- what is read of the second
  have hread : (Builtin.firstCells E.sz m (.slice b m c2)).run P w = .ok (ys.flatMap E.enc).toArray w := by
    rcases hs.2 with rfl | ⟨p, rfl, hp⟩
    · have hm : m = 0 := by have := hs.1; simpa using this.symm
      subst hm
      cases b <;> simp [Builtin.firstCells, loadCells, loadCellsFrom]
    · simp only [Builtin.firstCells]
      refine run_loadCells hysl fun j v hv => ?_
      -- which element
      have hj : j < m * E.sz := by rw [← hysl]; exact (List.getElem?_eq_some_iff.1 hv).1
      have hi : j / E.sz < ys.length := by rw [hs.1]; exact Nat.div_lt_of_lt_mul (by rw [Nat.mul_comm]; exact hj)
      have hr : j % E.sz < E.sz := Nat.mod_lt _ hpos
      have hx : ys[j / E.sz]? = some ys[j / E.sz] := List.getElem?_eq_getElem hi
      have hlen := E.len ys[j / E.sz]
      have hvj : (E.enc ys[j / E.sz])[j % E.sz]? = some ((E.enc ys[j / E.sz])[j % E.sz]'(by omega)) := List.getElem?_eq_getElem (by omega)
      have hf := flat_get ys hx hvj
      rw [Nat.mul_comm, Nat.div_add_mod] at hf
      rw [hv] at hf
      have := hp _ _ hx _ _ hvj
      rw [Nat.mul_comm, Nat.div_add_mod] at this
      rw [this, ← hf]
  have hone : ∀ v ∈ ys.flatMap E.enc, (∀ c, v ≠ .agg c) ∧ (∀ c, v ≠ .tuple c) := fun v hv => by
    obtain ⟨x, _, hx⟩ := List.mem_flatMap.1 hv
    exact E.one x v hx
  obtain ⟨hl, hnc, hr⟩ := ho
  by_cases hfit : n + m ≤ c
  · rcases hr with ⟨rfl, rfl⟩ | ⟨bb, cells, rfl, hBb, hbb, hcs, rest, hrest⟩
    · have hm : m = 0 := by omega
      have hn : n = 0 := by omega
      subst hm; subst hn
      have hxs : xs = [] := List.eq_nil_of_length_eq_zero hl
      have hys : ys = [] := List.eq_nil_of_length_eq_zero hs.1
      subst hxs; subst hys
      exact ⟨.slice none 0 0, w, by simp [Builtin.append_, run_underlying hu, hsizeOf, Builtin.lenOf, hread], Sane.refl w, k _ _ _ ⟨rfl, Nat.le_refl _, .inl ⟨rfl, rfl⟩⟩ (Upd.refl _ _) (fun i hi => .inl hi)⟩
    · have hxl : (xs.flatMap E.enc).length = n * E.sz := by rw [flat_len, hl]
      have hcl : cells.toList.length = c * E.sz := by simpa using hcs
      have hrl : rest.length = c * E.sz - n * E.sz := by
        have := congrArg List.length hrest
        rw [hcl, List.length_append, hxl] at this; omega
      have hmul : (n + m) * E.sz ≤ c * E.sz := Nat.mul_le_mul_right _ hfit
      rw [Nat.add_mul] at hmul
      obtain ⟨w', cells', h1, h2, h3, h4, h5, h6, h7⟩ := run_storeCells (P := P) bb e (ys.flatMap E.enc) (n * E.sz) cells w 0 hbb (by rw [hysl, hcs]; omega) hone
      refine ⟨_, w', ?_, h2, k _ _ _ ⟨by simp [hl, hs.1], hfit, .inr ⟨bb, cells', rfl, hBb, h4, by rw [h5, hcs], rest.drop (ys.flatMap E.enc).length, ?_⟩⟩
        ⟨by rw [h3]; exact Nat.le_refl _, fun i hi hs => h7 i fun e => hs ⟨_, rfl, e.symm⟩⟩ (fun i hi => .inl hi)⟩
      · simp [Builtin.append_, run_underlying hu, hsizeOf, Builtin.lenOf, hread, hfit, Addr.add_row, h1]
      · rw [h6, hrest, Nat.add_zero, ← hxl, putL_prefix _ _ _ (by rw [hysl, hrl]; omega), List.flatMap_append]
  · obtain ⟨inf, i1, i2, i3, i4⟩ := hti w
    have hcap := nextslicecap_le (n + m) c (by omega)
    have hle : Builtin.nextslicecap (n + m) c * bytes ≤ 2 ^ 48 := Nat.le_trans (Nat.mul_le_mul_right _ hcap) hroom
    have hold : ∀ w' : World, w'.heap = w.heap → (Builtin.firstCells E.sz n (.slice a n c)).run P w' = .ok (xs.flatMap E.enc).toArray w' := by
      intro w' hw'
      have hxl : (xs.flatMap E.enc).length = n * E.sz := by rw [flat_len, hl]
      rcases hr with ⟨rfl, rfl⟩ | ⟨bb, cells, rfl, hBb, hbb, hcs, rest, hrest⟩
      · have hn : n = 0 := by omega
        subst hn
        have hxs : xs = [] := List.eq_nil_of_length_eq_zero hl
        subst hxs
        simp [Builtin.firstCells]
      · simp only [Builtin.firstCells]
        refine run_loadCells hxl fun j v hv => ?_
        have hlt := (List.getElem?_eq_some_iff.1 hv).1
        rw [Addr.add_row, hw']
        unfold cell
        simp only [hbb, Option.isSome_none, Bool.false_eq_true, if_false, Nat.zero_add]
        rw [← Array.getElem?_toList, hrest, List.getElem?_append_left hlt]; exact hv
    have hread' : ∀ w' : World, w'.heap = w.heap → (Builtin.firstCells E.sz m (.slice b m c2)).run P w' = .ok (ys.flatMap E.enc).toArray w' := by
      intro w' hw'
      rcases hs.2 with rfl | ⟨p, rfl, hp⟩
      · have hm : m = 0 := by have := hs.1; simpa using this.symm
        subst hm
        cases b <;> simp [Builtin.firstCells, loadCells, loadCellsFrom]
      · simp only [Builtin.firstCells]
        refine run_loadCells hysl fun j v hv => ?_
        rw [hw']
        have hj : j < m * E.sz := by rw [← hysl]; exact (List.getElem?_eq_some_iff.1 hv).1
        have hi : j / E.sz < ys.length := by rw [hs.1]; exact Nat.div_lt_of_lt_mul (by rw [Nat.mul_comm]; exact hj)
        have hr : j % E.sz < E.sz := Nat.mod_lt _ hpos
        have hx : ys[j / E.sz]? = some ys[j / E.sz] := List.getElem?_eq_getElem hi
        have hlen := E.len ys[j / E.sz]
        have hvj : (E.enc ys[j / E.sz])[j % E.sz]? = some ((E.enc ys[j / E.sz])[j % E.sz]'(by omega)) := List.getElem?_eq_getElem (by omega)
        have hf := flat_get ys hx hvj
        rw [Nat.mul_comm, Nat.div_add_mod] at hf
        rw [hv] at hf
        have := hp _ _ hx _ _ hvj
        rw [Nat.mul_comm, Nat.div_add_mod] at this
        rw [this, ← hf]
    let q : Question := .appendCap (n + m) c e
    let cap := q.cut (w.tape w.drawn q)
    let wd : World := { w with drawn := w.drawn + 1 }
    have hch : (choose q).run P w = .ok cap wd := rfl
    have hcge : n + m ≤ cap := by show n + m ≤ (n + m) + _; omega
    have hz0 : Builtin.zeroCells z.cells (cap - (n + m)) = (Builtin.zeroCells z.cells (cap - (n + m))) := rfl
    have hzlen : (Builtin.zeroCells z.cells (cap - (n + m))).size = (cap - (n + m)) * E.sz := by simp [Builtin.zeroCells, hzl]
    refine ⟨.slice (some ⟨w.heap.size, 0, none⟩) (n + m) cap, { wd with heap := w.heap.push (.cells ((xs.flatMap E.enc).toArray ++ (ys.flatMap E.enc).toArray ++ Builtin.zeroCells z.cells (cap - (n + m))) e) }, ?_, Sane.push rfl, ?_⟩
    · have hbz : inf.bytes = bytes := i3
      have g1 : ∀ w' : World, (typeInfo e).run P w' = .ok inf w' := fun w' => by
        obtain ⟨i', j1, j2, _, _⟩ := hti w'
        rw [i1] at j1; cases j1; exact j2
      have hle' : ¬ (281474976710656 < Builtin.nextslicecap (n + m) c * inf.bytes) := by rw [hbz]; omega
      have hnb : inf.bytes ≠ 0 := by omega
      have hforced : (Question.appendCap (n + m) c e).forced = false := rfl
      have hold' := hold w.drew rfl
      have hread2 := hread' w.drew rfl
      simp [Builtin.append_, run_underlying hu, hsizeOf, Builtin.lenOf, hfit, g1, hle', hnb, hforced, hold', hread2, hzero, newRow]
      refine ⟨rfl, ?_⟩
      show ({ w with heap := _, drawn := _ } : World) = _
      congr 2
      simp only [cap, q, ← Array.append_assoc, List.append_toArray]
    · have hsz' : ((xs.flatMap E.enc).toArray ++ (ys.flatMap E.enc).toArray ++ Builtin.zeroCells z.cells (cap - (n + m))).size = cap * E.sz := by
        simp only [Array.size_append, hzlen, List.size_toArray, flat_len, hl, hs.1]
        rw [← Nat.add_mul, ← Nat.add_mul, Nat.add_sub_cancel' hcge]
      refine k _ _ _ ⟨by simp [hl, hs.1], hcge, .inr ⟨w.heap.size, _, rfl, hB, push_at _ _, hsz', (Builtin.zeroCells z.cells (cap - (n + m))).toList, ?_⟩⟩
        ((Keep.push w.heap.size w.heap _ (Nat.le_refl _)).upd _) (fun i ⟨p, e, hp⟩ => .inr (by cases e; exact hp.symm))
      simp [List.flatMap_append]

/- ------------------------------------------------------------------ a box of the call's own -/

theorem cell_push (h : Heap) (c : Array Value) (T : TypeId) (o : Nat) : cell (h.push (.cells c T (0, 0))) ⟨h.size, o, none⟩ = c[o]? := by
  unfold cell; simp
theorem cell_at {h : Heap} {b : Nat} {c : Array Value} {T : TypeId} {f : Nat × Nat} (hb : h[b]? = some (.cells c T f)) (o : Nat) : cell h ⟨b, o, none⟩ = c[o]? := by
  unfold cell; simp [hb]
def oneCells (vs : List Value) : Prop := ∀ v ∈ vs, (∀ c, v ≠ .agg c) ∧ (∀ c, v ≠ .tuple c)
theorem putL_all : ∀ (vs cs : List Value), cs.length = vs.length → putL cs 0 vs = vs := by
  intro vs cs h
  have := putL_prefix vs [] cs (by omega)
  simp at this
  rw [this]; simp; omega
/-- a whole variable of the call's own is written. -/
theorem svc_store_own {P : Program} {t T b : Nat} {h : Heap} {old : Array Value} {v : Value} {K : Unit → Heap → Prop} (hsz : szOf P t = some v.cells.size) (hb : h[b]? = some (.cells old T (0, 0)))
    (hlen : old.size = v.cells.size) (hone : oneCells v.cells.toList)
    (k : ∀ h', h'.size = h.size → h'[b]? = some (.cells v.cells T (0, 0)) → (∀ i, i ≠ b → h'[i]? = h[i]?) → K () h') : SVC P (Instr.storeAt t (.pointer (some ⟨b, 0, none⟩)) v) h K := by
  refine ⟨fun w hw => ?_⟩
  subst hw
  obtain ⟨w', cells', h1, h2, h3, h4, h5, h6, h7⟩ := run_storeCells (P := P) b T v.cells.toList 0 old w 0 hb (by simp [hlen]) hone
  refine ⟨(), w', ?_, h2, k _ h3 ?_ h7⟩
  · simp only [Instr.storeAt, Instr.sureAddr, Sem.run_bind, Sem.run_pure, Result.andThen_ok, storeVar, run_szOf hsz, ne_eq, not_true, if_false]
    exact h1
  · rw [h4]
    have : cells'.toList = v.cells.toList := by
      rw [h6, Nat.add_zero, putL_all]; simp [hlen]
    rw [Array.toList_inj.1 this]
theorem svc_store_new {P : Program} {t T : TypeId} {h : Heap} {old : Array Value} {v : Value} {K : Unit → Heap → Prop} (hsz : szOf P t = some v.cells.size) (hlen : old.size = v.cells.size)
    (hone : oneCells v.cells.toList) (k : K () (h.push (.cells v.cells T (0, 0)))) :
    SVC P (Instr.storeAt t (.pointer (some ⟨h.size, 0, none⟩)) v) (h.push (.cells old T (0, 0))) K := by
  refine svc_store_own hsz (push_at _ _) hlen hone fun h' e1 e2 e3 => ?_
  have : h' = h.push (.cells v.cells T (0, 0)) := by
    apply Array.ext_getElem?
    intro i
    by_cases hi : i = h.size
    · subst hi; rw [e2, push_at]
    · rw [e3 i hi, Array.getElem?_push, Array.getElem?_push, if_neg hi, if_neg hi]
  rw [this]; exact k
theorem wrap_i64 {n : Int} (h0 : -9223372036854775808 ≤ n) (h1 : n < 9223372036854775808) : IntKind.i64.wrap n = n := by
  unfold IntKind.wrap IntKind.signed IntKind.bits
  simp only [Bool.true_and]
  split
  · rename_i h; simp at h; omega
  · rename_i h; simp at h; omega
theorem one_string (s : ByteArray) : (∀ c, Value.string s ≠ .agg c) ∧ (∀ c, Value.string s ≠ .tuple c) := ⟨fun _ h => (by cases h), fun _ h => (by cases h)⟩
theorem one_bool (s : Bool) : (∀ c, Value.bool s ≠ .agg c) ∧ (∀ c, Value.bool s ≠ .tuple c) := ⟨fun _ h => (by cases h), fun _ h => (by cases h)⟩
theorem one_int (k : IntKind) (s : Int) : (∀ c, Value.int k s ≠ .agg c) ∧ (∀ c, Value.int k s ≠ .tuple c) := ⟨fun _ h => (by cases h), fun _ h => (by cases h)⟩
theorem one_slice (a : Option Addr) (n c : Nat) : (∀ x, Value.slice a n c ≠ .agg x) ∧ (∀ x, Value.slice a n c ≠ .tuple x) := ⟨fun _ h => (by cases h), fun _ h => (by cases h)⟩
theorem one_map (a : Option Nat) : (∀ x, Value.map a ≠ .agg x) ∧ (∀ x, Value.map a ≠ .tuple x) := ⟨fun _ h => (by cases h), fun _ h => (by cases h)⟩
theorem one_pointer (a : Option Addr) : (∀ x, Value.pointer a ≠ .agg x) ∧ (∀ x, Value.pointer a ≠ .tuple x) := ⟨fun _ h => (by cases h), fun _ h => (by cases h)⟩

/- ------------------------------------------------------------------ '==' of structs of strings, bools and numbers -/

def eqSc : Option TypeDesc → Value → Value → Option Bool
  | some .string, .string a, .string b => some (a.toList == b.toList)
  | some .bool, .bool a, .bool b => some (a == b)
  | some (.int _), .int k a, .int k' b => match eqKind k k' with | true => some (a == b) | false => none
  | _, _, _ => none
def eqFl (P : Program) (xs ys : List Value) : List Field → Option Bool
  | [] => some true
  | f :: fs => match f.name == "_", aggT P f.type, xs[f.offset]?, ys[f.offset]? with
    | false, false, some a, some b => match eqSc (P.underlying f.type) a b, eqFl P xs ys fs with
      | some r, some s => some (r && s)
      | _, _ => none
    | _, _, _, _ => none
theorem run_eqSc {P : Program} {t : TypeId} {a b : Value} {r : Bool} (h : eqSc (P.underlying t) a b = some r) (d : Nat) (w : World) : (Op.equalIn (d + 1) t a b).run P w = .ok r w := by
  cases hu : P.underlying t with
  | none => rw [hu] at h; simp [eqSc] at h
  | some u =>
    rw [hu] at h
    cases u <;> cases a <;> cases b <;> simp only [eqSc, Option.some.injEq, reduceCtorEq] at h
    · subst h; exact run_equalIn_bool w d t _ _ hu
    · rename_i k _ _ k' _
      cases hk : eqKind _ _ with
      | false => rw [hk] at h; cases h
      | true =>
        rw [hk] at h
        obtain rfl := eqKind_eq hk
        cases h
        exact run_equalIn_int w d t _ _ _ _ hu
    · subst h; exact run_equalIn_string w d t _ _ hu
theorem run_eqFl {P : Program} {xs ys : Array Value} (d : Nat) (w : World) : ∀ {fs : List Field} {r : Bool}, eqFl P xs.toList ys.toList fs = some r → (Op.eqFields (d + 1) xs ys fs).run P w = .ok r w
  | [], r, h => by simp [eqFl] at h; subst h; rfl
  | f :: fs, r, h => by
    simp only [eqFl] at h
    cases hn : f.name == "_" with
    | true => simp [hn] at h
    | false =>
      cases ha : aggT P f.type with
      | true => simp [hn, ha] at h
      | false =>
        cases hx : xs.toList[f.offset]? with
        | none => simp [hn, ha, hx] at h
        | some a =>
          cases hy : ys.toList[f.offset]? with
          | none => simp [hn, ha, hx, hy] at h
          | some b =>
            simp only [hn, ha, hx, hy] at h
            cases he : eqSc (P.underlying f.type) a b with
            | none => simp [he] at h
            | some r1 =>
              cases hf : eqFl P xs.toList ys.toList fs with
              | none => simp [he, hf] at h
              | some r2 =>
                simp only [he, hf, Option.some.injEq] at h
                subst h
                have hund : P.underlying f.type ≠ none := fun e => by rw [e] at he; simp [eqSc] at he
                have hag : (isAgg f.type).run P w = .ok false w := by
                  unfold aggT at ha
                  cases hu : P.underlying f.type with
                  | none => exact absurd hu hund
                  | some u => rw [hu] at ha; cases u <;> simp_all [isAgg, run_underlying hu]
                rw [Array.getElem?_toList] at hx hy
                have p1 : (part f.type xs f.offset).run P w = .ok a w := by simp [part, hag, hx]
                have p2 : (part f.type ys f.offset).run P w = .ok b w := by simp [part, hag, hy]
                have hn' : f.name ≠ "_" := by simpa using hn
                simp only [Op.eqFields, if_pos hn', Sem.run_bind, p1, p2, Result.andThen_ok, run_eqSc he d w]
                cases r1
                · simp
                · simpa using run_eqFl d w hf
structure Flat (P : Program) (t : TypeId) (gs : Array Field) : Prop where
  und : P.underlying t = some (.struct gs)
  held : P.stoodInHeld t = false
  guard : P.eqGuardType P.depth t = false
theorem reads_eq {P : Program} {t : TypeId} {gs : Array Field} {xs ys : Array Value} {r : Bool} {h : Heap} {x y : Operand} (hf : Flat P t gs) (he : eqFl P xs.toList ys.toList gs.toList = some r) :
    Reads P (eqSem .eql t x y (.agg xs) (.agg ys)) h (.bool r) ∧ Reads P (eqSem .neq t x y (.agg xs) (.agg ys)) h (.bool !r) := by
  have run : ∀ w : World, (Op.equal t (.agg xs) (.agg ys)).run P w = .ok r w := fun w => by
    have hfo : P.fieldsOf t = gs := by simp [Program.fieldsOf, hf.und]
    unfold Op.equal Op.maxDepth
    rw [run_equalIn_struct (P := P) w 9999 t xs ys (by rw [hfo]; exact hf.und) hf.held, hfo]
    exact run_eqFl 9998 w he
  have g : ∀ (w : World) op, (eqGuard op t x y (.agg xs) (.agg ys)).run P w = .ok () w := fun w op => by
    cases op <;> first | rfl | simp [eqGuard, hf.guard]
  constructor <;> refine ⟨fun w _ => ?_⟩ <;> simp [eqSem, g, binOp, run]

theorem Upd.at {S : Nat → Prop} {h h' : Heap} {b : Nat} {o : Obj} (u : Upd S h h') (hb : h[b]? = some o) (hs : ¬ S b) : h'[b]? = some o := by
  have hlt : b < h.size := by
    by_cases hlt : b < h.size
    · exact hlt
    · rw [Array.getElem?_eq_none (by omega)] at hb; cases hb
  rw [u.block b hlt hs]; exact hb
theorem Keep.at {B : Nat} {h h' : Heap} {b : Nat} {o : Obj} (u : Keep B h h') (hb : h[b]? = some o) (hs : b < B) : h'[b]? = some o := by
  rw [u.block b hs]; exact hb
theorem at_lt {h : Heap} {b : Nat} {o : Obj} (hb : h[b]? = some o) : b < h.size := by
  by_cases hlt : b < h.size
  · exact hlt
  · rw [Array.getElem?_eq_none (by omega)] at hb; cases hb
theorem Upd.push {S : Nat → Prop} {h h1 : Heap} (u : Upd S h h1) (o : Obj) : Upd S h (h1.push o) :=
  u.trans ((Keep.push h1.size h1 o (Nat.le_refl _)).upd S)

/-- one element appended to a slice of the call's own. -/
theorem svc_append1 {α : Type} {E : Enc α} {P : Program} {T e : TypeId} {bytes : Nat} {z : Value} {B : Nat} {h : Heap} {a : Option Addr} {n c : Nat} {xs : List α} {x : α} {v : Value} {ty : TypeId}
    {K : Option Addr → Nat → Nat → Heap → Prop} (hA : App P T e E.sz bytes z) (ho : Vc.Own E e B h a n c xs) (hB : B ≤ h.size) (hb : bsCells P T 1 [(0, v)] = some (e, E.enc x))
    (hroom : (4 * (n + 1) + 192) * bytes ≤ 2 ^ 48)
    (k : ∀ a' c' h', Vc.Own E e B h' a' (n + 1) c' (xs ++ [x]) → Upd (blk a) h h' → (∀ i, blk a' i → blk a i ∨ h.size ≤ i) → K a' (n + 1) c' h') :
    SVC P (Instr.buildSlice T 1 (Array.mk [(0, v)])) h fun v18 h19 => ∃ (a20 : Option Addr), ∃ (k21 : Nat), ∃ (k22 : Nat), v18 = Value.slice a20 k21 k22 ∧
      SVC P (Builtin.append_ (Array.mk [T, T]) ty (Array.mk [Value.slice a n c, Value.slice a20 k21 k22])) h19 fun v23 h24 => ∃ (a25 : Option Addr), ∃ (k26 : Nat), ∃ (k27 : Nat), v23 = Value.slice a25 k26 k27 ∧ K a25 k26 k27 h24 := by
  refine svc_buildSlice hb ⟨_, _, _, rfl, ?_⟩
  have u0 : Upd (blk a) h (h.push (.cells (E.enc x).toArray e (0, 0))) := (Upd.refl _ h).push _
  have own1 : Vc.Own E e B (h.push (.cells (E.enc x).toArray e (0, 0))) a n c xs := by
    obtain ⟨h1, h2, h3⟩ := ho
    refine ⟨h1, h2, h3.imp id ?_⟩
    rintro ⟨b, cells, r1, r2, r3, r4⟩
    exact ⟨b, cells, r1, r2, by rw [push_old _ _ (at_lt r3)]; exact r3, r4⟩
  refine svc_append (ys := [x]) (ty := ty) hA own1 (by simp; omega) ⟨rfl, .inr ⟨_, rfl, fun i y hy j u hu => ?_⟩⟩ hroom fun a' c' h' o' u' b' => ⟨_, _, _, rfl, k a' c' h' o' (u0.trans u') fun i hi => ?_⟩
  · cases i with
    | zero =>
      simp at hy; subst hy
      rw [Addr.add_row, cell_push, Nat.zero_mul]
      simpa using hu
    | succ i => simp at hy
  · rcases b' i hi with h1 | h1
    · exact .inl h1
    · right; rw [h1]; simp

/-- one cell of a row of the call's own is written. -/
theorem svc_store_cell {P : Program} {t T b o : Nat} {h : Heap} {old : Array Value} {v : Value} {K : Unit → Heap → Prop} (hsz : szOf P t = some 1) (hb : h[b]? = some (.cells old T (0, 0)))
    (ho : o < old.size) (hc : v.cells = #[v]) (hone : (∀ c, v ≠ .agg c) ∧ (∀ c, v ≠ .tuple c))
    (k : ∀ h', h'.size = h.size → h'[b]? = some (.cells (old.toList.set o v).toArray T (0, 0)) → (∀ i, i ≠ b → h'[i]? = h[i]?) → K () h') : SVC P (Instr.storeAt t (.pointer (some ⟨b, o, none⟩)) v) h K := by
  refine ⟨fun w hw => ?_⟩
  subst hw
  obtain ⟨w', cells', h1, h2, h3, h4, h5, h6, h7⟩ := run_storeCells (P := P) b T [v] o old w 0 hb (by simp; omega) (fun u hu => by simp at hu; subst hu; exact hone)
  refine ⟨(), w', ?_, h2, k _ h3 ?_ h7⟩
  · simp only [Instr.storeAt, Instr.sureAddr, Sem.run_bind, Sem.run_pure, Result.andThen_ok, storeVar, hc, run_szOf hsz, List.size_toArray, List.length_singleton, ne_eq, not_true, if_false]
    exact h1
  · rw [h4]
    have : cells'.toList = old.toList.set o v := by rw [h6]; rfl
    rw [← this]
theorem upd_of_one {h h' : Heap} {b : Nat} (hs : h'.size = h.size) (ho : ∀ i, i ≠ b → h'[i]? = h[i]?) : Upd (fun i => i = b) h h' := ⟨by omega, fun i _ hi => ho i hi⟩
theorem Own.mono {α : Type} {E : Enc α} {T : TypeId} {B C : Nat} {h : Heap} {a : Option Addr} {n c : Nat} {xs : List α} (ho : Vc.Own E T B h a n c xs) (hC : C ≤ B) : Vc.Own E T C h a n c xs :=
  ⟨ho.1, ho.2.1, ho.2.2.imp id fun ⟨b, cells, r1, r2, r3⟩ => ⟨b, cells, r1, by omega, r3⟩⟩
end Go.Vc
end

section
set_option linter.unusedSimpArgs false
set_option linter.unusedVariables false
namespace Go.Vc
open Go

section
variable {κ ν : Type} [DecidableEq κ]

/-- the place of a key in a list of entries. -/
def mIdx (m : List (κ × ν)) (k : κ) : Option Nat := m.findIdx? fun p => decide (p.1 = k)
def mGet (m : List (κ × ν)) (k : κ) : Option ν := match m with
  | [] => none
  | p :: m => if p.1 = k then some p.2 else mGet m k
def mPut (m : List (κ × ν)) (k : κ) (v : ν) : List (κ × ν) := match m with
  | [] => [(k, v)]
  | p :: m => if p.1 = k then (k, v) :: m else p :: mPut m k v
def mDel (m : List (κ × ν)) (k : κ) : List (κ × ν) := match m with
  | [] => []
  | p :: m => if p.1 = k then m else p :: mDel m k
def mKeys (m : List (κ × ν)) : List κ := m.map (·.1)

theorem mGet_put (m : List (κ × ν)) (k : κ) (v : ν) (q : κ) : mGet (mPut m k v) q = if k = q then some v else mGet m q := by
  induction m with
  | nil => simp [mPut, mGet]
  | cons p m ih =>
    by_cases h : p.1 = k
    · subst h
      by_cases hq : p.1 = q <;> simp [mPut, mGet, hq]
    · by_cases hq : p.1 = q
      · subst hq; simp [mPut, mGet, h, Ne.symm h]
      · simp [mPut, mGet, h, hq, ih]
theorem mKeys_put (m : List (κ × ν)) (k : κ) (v : ν) (q : κ) : q ∈ mKeys (mPut m k v) ↔ q = k ∨ q ∈ mKeys m := by
  induction m with
  | nil => simp [mPut, mKeys]
  | cons p m ih =>
    by_cases h : p.1 = k
    · subst h; simp [mPut, mKeys]
    · simp only [mPut, if_neg h, mKeys, List.map_cons, List.mem_cons] at ih ⊢
      rw [ih]
      exact ⟨fun h => h.elim (fun h => .inr (.inl h)) (fun h => h.elim .inl (fun h => .inr (.inr h))), fun h => h.elim (fun h => .inr (.inl h)) (fun h => h.elim .inl (fun h => .inr (.inr h)))⟩
theorem mNodup_put {m : List (κ × ν)} (hn : (mKeys m).Nodup) (k : κ) (v : ν) : (mKeys (mPut m k v)).Nodup := by
  induction m with
  | nil => simp [mPut, mKeys]
  | cons p m ih =>
    simp only [mKeys, List.map_cons, List.nodup_cons] at hn
    by_cases h : p.1 = k
    · subst h; simp only [mPut, if_true, mKeys, List.map_cons, List.nodup_cons]; exact hn
    · simp only [mPut, if_neg h, mKeys, List.map_cons, List.nodup_cons]
      refine ⟨fun hm => ?_, ih hn.2⟩
      rcases (mKeys_put m k v p.1).1 hm with e | e
      · exact h e
      · exact hn.1 e
theorem mGet_none {m : List (κ × ν)} {k : κ} : mGet m k = none ↔ k ∉ mKeys m := by
  induction m with
  | nil => simp [mGet, mKeys]
  | cons p m ih =>
    by_cases h : p.1 = k
    · subst h; simp [mGet, mKeys]
    · simp only [mGet, if_neg h, ih, mKeys, List.map_cons, List.mem_cons, not_or]
      exact ⟨fun hh => ⟨fun e => h e.symm, hh⟩, fun hh => hh.2⟩
theorem mGet_del {m : List (κ × ν)} (hn : (mKeys m).Nodup) (k q : κ) : mGet (mDel m k) q = if k = q then none else mGet m q := by
  induction m with
  | nil => simp [mDel, mGet]
  | cons p m ih =>
    simp only [mKeys, List.map_cons, List.nodup_cons] at hn
    by_cases h : p.1 = k
    · subst h
      by_cases hq : p.1 = q
      · subst hq; simp [mDel, mGet_none.2 hn.1]
      · simp [mDel, mGet, hq]
    · by_cases hq : p.1 = q
      · subst hq; simp [mDel, mGet, h, Ne.symm h]
      · simp [mDel, mGet, h, hq, ih hn.2]
theorem mDel_sub (m : List (κ × ν)) (k : κ) : (mDel m k).Sublist m := by
  induction m with
  | nil => exact List.Sublist.refl _
  | cons p m ih =>
    by_cases h : p.1 = k
    · simp [mDel, h]
    · simp only [mDel, if_neg h]; exact ih.cons_cons p
theorem mNodup_del {m : List (κ × ν)} (hn : (mKeys m).Nodup) (k : κ) : (mKeys (mDel m k)).Nodup := ((mDel_sub m k).map _).nodup hn

/-- how keys and values stand as values, and that '==' on keys is their equality. -/
structure Mk (P : Program) (T kt et : TypeId) (κ ν : Type) [DecidableEq κ] where
  ek : κ → Value
  ev : ν → Value
  und : P.underlying T = some (.map kt et)
  find : ∀ (k : κ) (es : List MapEntry) (m : List (κ × ν)) (w : World), es.map (fun e => (e.key, e.val)) = m.map (fun p => (ek p.1, ev p.2)) →
    (Instr.findKey kt (ek k) es).run P w = .ok ((mIdx m k).bind fun i => (m[i]?).map fun p => (i, ev p.2)) w
  check : ∀ (k : κ) (b : Bool) (w : World), (Instr.checkKey b 10000 kt (ek k)).run P w = .ok () w
  bits : ∀ k, Instr.sameBits 10000 (ek k) (ek k) = true

variable {P : Program} {T kt et : TypeId}

/-- a map's block reads as a list of entries. -/
def MapAt (M : Mk P T kt et κ ν) (h : Heap) (r : Nat) (m : List (κ × ν)) : Prop :=
  ∃ es clock, h[r]? = some (.map es clock) ∧ es.toList.map (fun e => (e.key, e.val)) = m.map (fun p => (M.ek p.1, M.ev p.2)) ∧ (mKeys m).Nodup ∧
    (∀ e ∈ es.toList, e.born < clock) ∧ (es.toList.map (·.born)).Nodup

theorem MapAt.lt {M : Mk P T kt et κ ν} {h : Heap} {r : Nat} {m : List (κ × ν)} (hm : MapAt M h r m) : r < h.size := by
  obtain ⟨es, clock, hb, _⟩ := hm; exact at_lt hb
theorem MapAt.upd {M : Mk P T kt et κ ν} {h h' : Heap} {r : Nat} {m : List (κ × ν)} {S : Nat → Prop} (hm : MapAt M h r m) (u : Upd S h h') (hs : ¬ S r) : MapAt M h' r m := by
  obtain ⟨es, clock, hb, rest⟩ := hm; exact ⟨es, clock, u.at hb hs, rest⟩
theorem MapAt.keep {M : Mk P T kt et κ ν} {h h' : Heap} {r : Nat} {m : List (κ × ν)} (hm : MapAt M h r m) (u : Keep h.size h h') : MapAt M h' r m := by
  obtain ⟨es, clock, hb, rest⟩ := hm; exact ⟨es, clock, u.at hb (at_lt hb), rest⟩
theorem MapAt.new (M : Mk P T kt et κ ν) (h : Heap) : MapAt M (h.push (.map #[] 0)) h.size [] := ⟨#[], 0, push_at _ _, rfl, List.nodup_nil, by simp, by simp⟩

theorem mIdx_get (m : List (κ × ν)) (k : κ) : ((mIdx m k).bind fun i => m[i]?).map (·.2) = mGet m k := by
  induction m with
  | nil => rfl
  | cons p m ih =>
    by_cases h : p.1 = k
    · simp [mIdx, List.findIdx?_cons, h, mGet]
    · simp only [mGet, if_neg h, ← ih]
      simp only [mIdx, List.findIdx?_cons, h, decide_false, Bool.false_eq_true, if_false]
      cases m.findIdx? fun p => decide (p.1 = k) with
      | none => rfl
      | some i => simp
theorem mIdx_put (m : List (κ × ν)) (k : κ) (v : ν) : mPut m k v = match mIdx m k with | some i => m.set i (k, v) | none => m ++ [(k, v)] := by
  induction m with
  | nil => rfl
  | cons p m ih =>
    by_cases h : p.1 = k
    · simp [mIdx, List.findIdx?_cons, h, mPut]
    · simp only [mPut, if_neg h, ih]
      simp only [mIdx, List.findIdx?_cons, h, decide_false, Bool.false_eq_true, if_false]
      cases m.findIdx? fun p => decide (p.1 = k) with
      | none => rfl
      | some i => simp
theorem mIdx_del (m : List (κ × ν)) (k : κ) : mDel m k = match mIdx m k with | some i => m.eraseIdx i | none => m := by
  induction m with
  | nil => rfl
  | cons p m ih =>
    by_cases h : p.1 = k
    · simp [mIdx, List.findIdx?_cons, h, mDel]
    · simp only [mDel, if_neg h, ih]
      simp only [mIdx, List.findIdx?_cons, h, decide_false, Bool.false_eq_true, if_false]
      cases m.findIdx? fun p => decide (p.1 = k) with
      | none => rfl
      | some i => simp
theorem mIdx_lt {m : List (κ × ν)} {k : κ} {i : Nat} (h : mIdx m k = some i) : ∃ hi : i < m.length, m[i].1 = k := by
  have := List.findIdx?_eq_some_iff_getElem.1 h
  obtain ⟨hi, h1, _⟩ := this
  exact ⟨hi, by simpa using h1⟩

/-- a look-up. -/
theorem reads_lookup {M : Mk P T kt et κ ν} {h : Heap} {r : Nat} {m : List (κ × ν)} {k : κ} {z : Value} (hm : MapAt M h r m) (hz : (P.info? et).bind (·.zero) = some z) :
    Reads P (Instr.lookup T (.map (some r)) (M.ek k) false) h (match mGet m k with | some v => M.ev v | none => z) ∧
    Reads P (Instr.lookup T (.map (some r)) (M.ek k) true) h (.tuple #[match mGet m k with | some v => M.ev v | none => z, .bool (mGet m k).isSome]) := by
  obtain ⟨es, clock, hb, he, hn, _, _⟩ := hm
  have zero : ∀ w : World, (zeroValue et).run P w = .ok z w := fun w => by
    cases hi : P.info? et with
    | none => simp [hi] at hz
    | some i => simp [hi] at hz; simp [zeroValue, typeInfo, hi, hz]
  have key : ∀ ok (w : World), w.heap = h → (Instr.lookup T (.map (some r)) (M.ek k) ok).run P w = .ok (if ok then .tuple #[match mGet m k with | some v => M.ev v | none => z, .bool (mGet m k).isSome] else match mGet m k with | some v => M.ev v | none => z) w := by
    intro ok w hw
    subst hw
    have hget : (getObj r).run P w = .ok (.map es clock) w := by simp [getObj, Sem.run, hb]
    have hfind := M.find k es.toList m w he
    have hig := mIdx_get m k
    simp only [Instr.lookup, Sem.run_bind, run_underlying M.und, Result.andThen_ok, hget, Sem.run_pure, M.check, hfind]
    cases hi : mIdx m k with
    | none =>
      rw [hi] at hig
      simp at hig
      simp [← hig, zero]
      all_goals (cases ok <;> rfl)
    | some i =>
      obtain ⟨hlt, _⟩ := mIdx_lt hi
      rw [hi] at hig
      simp [hlt] at hig
      simp [hlt, ← hig]
      all_goals (cases ok <;> rfl)
  exact ⟨⟨fun w hw => key false w hw⟩, ⟨fun w hw => key true w hw⟩⟩

theorem run_setObj {w : World} {r : Nat} {es : Array MapEntry} {c : Nat} {o : Obj} (hb : w.heap[r]? = some (.map es c)) : (setObj r o).run P w = .ok () { w with heap := w.heap.setIfInBounds r o } := by
  simp [setObj, Sem.run, hb]
theorem setObj_upd (h : Heap) (r : Nat) (o : Obj) : Upd (fun i => i = r) h (h.setIfInBounds r o) := ⟨by simp, fun i _ hi => by rw [Array.getElem?_setIfInBounds_ne (Ne.symm hi)]⟩
theorem setObj_at {h : Heap} {r : Nat} {o : Obj} (hr : r < h.size) : (h.setIfInBounds r o)[r]? = some o := by simp [hr]

/-- a store. -/
theorem svc_mapUpdate {M : Mk P T kt et κ ν} {h : Heap} {r : Nat} {m : List (κ × ν)} {k : κ} {v : ν} {K : Unit → Heap → Prop} (hm : MapAt M h r m)
    (kk : ∀ h', h'.size = h.size → Upd (fun i => i = r) h h' → MapAt M h' r (mPut m k v) → K () h') : SVC P (Instr.mapUpdate T (.map (some r)) (M.ek k) (M.ev v)) h K := by
  refine ⟨fun w hw => ?_⟩
  subst hw
  have hlt := hm.lt
  have hnd := mNodup_put (v := v) (m := m) (k := k)
  obtain ⟨es, clock, hb, he, hn, hc, hbn⟩ := hm
  have hget : (getObj r).run P w = .ok (.map es clock) w := by simp [getObj, Sem.run, hb]
  have hfind := M.find k es.toList m w he
  have hlen : es.toList.length = m.length := by have := congrArg List.length he; simpa using this
  have hput := mIdx_put m k v
  cases hi : mIdx m k with
  | none =>
    rw [hi] at hfind hput
    simp only at hput
    refine ⟨(), { w with heap := w.heap.setIfInBounds r (.map (es.push { key := M.ek k, val := M.ev v, born := clock }) (clock + 1)) }, ?_, Sane.set hb rfl rfl, kk _ (by simp) (setObj_upd _ _ _)
      ⟨_, _, setObj_at hlt, ?_, hnd hn, ?_, ?_⟩⟩
    · simp only [Instr.mapUpdate, Sem.run_bind, run_underlying M.und, Result.andThen_ok, hget, M.check, hfind, Option.bind_none]
      exact run_setObj hb
    · rw [hput]; simp [he]
    · intro e hm
      simp at hm
      rcases hm with hm | rfl
      · have := hc e (by simpa using hm); omega
      · simp
    · simp only [Array.toList_push, List.map_append, List.map_cons, List.map_nil]
      refine List.nodup_append.2 ⟨hbn, by simp, fun a ha b hb' => ?_⟩
      simp at hb'; subst hb'
      obtain ⟨e, hem, rfl⟩ := List.mem_map.1 ha
      have := hc e hem
      omega
  | some i =>
    obtain ⟨hlt', hkey⟩ := mIdx_lt hi
    rw [hi] at hfind hput
    simp only at hput
    have hie : i < es.size := by have : es.toList.length = es.size := by simp
                                 omega
    have heq : (es[i].key, es[i].val) = (M.ek m[i].1, M.ev m[i].2) := by
      have := congrArg (fun l => l[i]?) he
      simp [hie, hlt'] at this
      exact Prod.ext this.1 this.2
    have hk' : es[i].key = M.ek k := by have := congrArg Prod.fst heq; simp at this; rw [this, hkey]
    have hold : ((es[i]?).map (·.key)).getD (M.ek k) = M.ek k := by simp [hie, hk']
    refine ⟨(), { w with heap := w.heap.setIfInBounds r (.map (es.modify i fun e => { e with key := M.ek k, val := M.ev v }) clock) }, ?_, Sane.set hb rfl rfl, kk _ (by simp) (setObj_upd _ _ _)
      ⟨_, _, setObj_at hlt, ?_, hnd hn, ?_, ?_⟩⟩
    · have hstay : (Instr.keyThatStays (M.ek k) (M.ek k)).run P w = .ok (M.ek k) w := by unfold Instr.keyThatStays; rw [if_pos (M.bits k)]; rfl
      simp only [Instr.mapUpdate, Sem.run_bind, run_underlying M.und, Result.andThen_ok, hget, M.check, hfind, Option.bind_some, List.getElem?_eq_getElem hlt', Option.map_some, hold, hstay]
      exact run_setObj hb
    · rw [hput]
      apply List.ext_getElem?
      intro j
      have hj := congrArg (fun l => l[j]?) he
      simp only [List.getElem?_map, Array.getElem?_toList] at hj
      simp only [List.getElem?_map, Array.getElem?_toList, Array.getElem?_modify, List.getElem?_set]
      by_cases hji : i = j
      · subst hji; simp [hie, hlt']
      · simp [hji]; exact hj
    · intro e hm
      obtain ⟨j, hj, rfl⟩ := List.getElem_of_mem hm
      simp only [Array.length_toList, Array.size_modify] at hj
      simp only [Array.getElem_toList, Array.getElem_modify]
      split
      · rename_i hij
        subst hij
        exact hc es[i] (by simp)
      · exact hc _ (by simp)
    · have : ((es.modify i fun e => { e with key := M.ek k, val := M.ev v }).toList.map (·.born)) = es.toList.map (·.born) := by
        apply List.ext_getElem?
        intro j
        simp only [List.getElem?_map, Array.getElem?_toList, Array.getElem?_modify]
        by_cases hji : i = j
        · subst hji; simp [hie]
        · simp [hji]
      rw [this]; exact hbn

theorem map_erase {α β : Type} (f : α → β) : ∀ (l : List α) (i : Nat), (l.eraseIdx i).map f = (l.map f).eraseIdx i
  | [], _ => rfl
  | _ :: _, 0 => rfl
  | a :: l, i + 1 => by simp [List.eraseIdx, map_erase f l i]
/-- a delete. -/
theorem svc_delete {M : Mk P T kt et κ ν} {h : Heap} {r : Nat} {m : List (κ × ν)} {k : κ} {ty t2 : TypeId} {K : Value → Heap → Prop} (hm : MapAt M h r m)
    (kk : ∀ h', h'.size = h.size → Upd (fun i => i = r) h h' → MapAt M h' r (mDel m k) → K (.tuple #[]) h') : SVC P (Builtin.delete_ #[T, t2] ty #[.map (some r), M.ek k]) h K := by
  refine ⟨fun w hw => ?_⟩
  subst hw
  have hlt := hm.lt
  have hnd := mNodup_del (m := m) (k := k)
  obtain ⟨es, clock, hb, he, hn, hc, hbn⟩ := hm
  have hget : (getObj r).run P w = .ok (.map es clock) w := by simp [getObj, Sem.run, hb]
  have hfind := M.find k es.toList m w he
  have hlen : es.toList.length = m.length := by have := congrArg List.length he; simpa using this
  have hdel := mIdx_del m k
  cases hi : mIdx m k with
  | none =>
    rw [hi] at hfind hdel
    simp only at hdel
    refine ⟨.tuple #[], { w with heap := w.heap.setIfInBounds r (.map es clock) }, ?_, Sane.set hb rfl rfl, kk _ (by simp) (setObj_upd _ _ _) ⟨_, _, setObj_at hlt, by rw [hdel]; exact he, hnd hn, hc, hbn⟩⟩
    simp [Builtin.delete_, run_underlying M.und, hget, M.check, hfind, run_setObj hb]
  | some i =>
    obtain ⟨hlt', hkey⟩ := mIdx_lt hi
    rw [hi] at hfind hdel
    simp only at hdel
    have hie : i < es.size := by have : es.toList.length = es.size := by simp
                                 omega
    have hel : (es.eraseIdxIfInBounds i).toList = es.toList.eraseIdx i := by simp [Array.eraseIdxIfInBounds, hie]
    refine ⟨.tuple #[], { w with heap := w.heap.setIfInBounds r (.map (es.eraseIdxIfInBounds i) clock) }, ?_, Sane.set hb rfl rfl, kk _ (by simp) (setObj_upd _ _ _)
      ⟨_, _, setObj_at hlt, ?_, hnd hn, ?_, ?_⟩⟩
    · simp [Builtin.delete_, run_underlying M.und, hget, M.check, hfind, hlt', run_setObj hb]
    · rw [hel, hdel, map_erase, he, map_erase]
    · rw [hel]; exact fun e hm => hc e (List.mem_of_mem_eraseIdx hm)
    · rw [hel, map_erase]; exact hbn.sublist (List.eraseIdx_sublist _ _)

/- ------------------------------------------------------------------ keys of strings, and of whole numbers -/

theorem findNow_eq {κ ν : Type} [DecidableEq κ] {d : TypeDesc} {ek : κ → Value} {ev : ν → Value} (hs : ∀ a b, Instr.sameNow d (ek a) (ek b) = some (decide (b = a))) (k : κ) :
    ∀ (es : List MapEntry) (m : List (κ × ν)) (i : Nat), es.map (fun e => (e.key, e.val)) = m.map (fun p => (ek p.1, ev p.2)) →
    Instr.findNow d (ek k) es i = some ((mIdx m k).bind fun j => (m[j]?).map fun p => (i + j, ev p.2))
  | [], [], i, _ => rfl
  | [], _ :: _, i, h => by simp at h
  | _ :: _, [], i, h => by simp at h
  | e :: es, p :: m, i, h => by
    simp only [List.map_cons, List.cons.injEq, Prod.mk.injEq] at h
    obtain ⟨⟨h1, h2⟩, h3⟩ := h
    unfold Instr.findNow
    rw [h1, hs]
    by_cases hk : p.1 = k
    · simp [mIdx, List.findIdx?_cons, hk, h2]
    · simp only [hk, decide_false]
      rw [findNow_eq hs k es m (i + 1) h3]
      simp only [mIdx, List.findIdx?_cons, hk, decide_false, Bool.false_eq_true, if_false]
      cases m.findIdx? fun p => decide (p.1 = k) with
      | none => rfl
      | some j => simp [Nat.add_assoc, Nat.add_comm 1]

theorem beq_dec (a b : ByteArray) : (a == b) = decide (b = a) := by
  rw [beq_toListBytes]
  cases h : a.toList == b.toList with
  | true =>
    have : a = b := by
      have := by simpa using h
      rw [ByteArray.toList_eq, ByteArray.toList_eq] at this
      cases a; cases b; congr 1; exact Array.toList_inj.1 this
    simp [this]
  | false =>
    have : b ≠ a := fun e => by subst e; simp at h
    simp [this]

theorem bits_string (n : Nat) (k : ByteArray) : Instr.sameBits n (.string k) (.string k) = true := by
  have : (k == k) = true := by rw [beq_dec]; simp
  cases n <;> simp only [Instr.sameBits] <;> exact this
theorem bits_int (n : Nat) (ik : IntKind) (k : Int) : Instr.sameBits n (.int ik k) (.int ik k) = true := by cases n <;> simp [Instr.sameBits]
theorem check_string {kt : TypeId} (hk : P.underlying kt = some .string) (n : Nat) (b : Bool) (k : ByteArray) (w : World) : (Instr.checkKey b (n + 1) kt (.string k)).run P w = .ok () w := by
  unfold Instr.checkKey; simp only [Sem.run_bind, run_underlying hk, Result.andThen_ok]; rfl
theorem check_int {kt : TypeId} {ik : IntKind} (hk : P.underlying kt = some (.int ik)) (n : Nat) (b : Bool) (k : Int) (w : World) : (Instr.checkKey b (n + 1) kt (.int ik k)).run P w = .ok () w := by
  unfold Instr.checkKey; simp only [Sem.run_bind, run_underlying hk, Result.andThen_ok]; rfl
/-- a map keyed by strings. -/
def strMk (P : Program) (T kt et : TypeId) (ν : Type) (ev : ν → Value) (hT : P.underlying T = some (.map kt et)) (hk : P.underlying kt = some .string) : Mk P T kt et ByteArray ν where
  ek := .string
  ev := ev
  und := hT
  find := fun k es m w he => by
    have := findNow_eq (d := .string) (ek := Value.string) (ev := ev) (fun a b => by simp only [Instr.sameNow]; rw [beq_dec]) k es m 0 he
    simp [Instr.findKey, run_underlying hk, this]
  check := fun k b w => check_string hk 9999 b k w
  bits := fun k => bits_string _ k
end
end Go.Vc
end

section
set_option linter.unusedSimpArgs false
set_option linter.unusedVariables false
namespace Go.Vc
open Go
open Go.ChangeMaps (setBlock)

section
variable {κ ν : Type} [DecidableEq κ] {P : Program} {T kt et : TypeId}

/-- a loop over a map: what is left, and which entry was handed out last. -/
def IterAt (M : Mk P T kt et κ ν) (h : Heap) (i r : Nat) (m left : List (κ × ν)) (cur : Option (κ × ν)) : Prop :=
  ∃ es clock since seen last, h[r]? = some (.map es clock) ∧ es.toList.map (fun e => (e.key, e.val)) = m.map (fun p => (M.ek p.1, M.ev p.2)) ∧ (mKeys m).Nodup ∧
    (∀ e ∈ es.toList, e.born < clock) ∧ (es.toList.map (·.born)).Nodup ∧ h[i]? = some (.mapIter (some r) since seen last) ∧ (∀ e ∈ es.toList, e.born < since) ∧ since ≤ last ∧ since ≤ clock ∧
    (leftOf es seen).toList.map (fun e => (e.key, e.val)) = left.map (fun p => (M.ek p.1, M.ev p.2)) ∧
    (∀ p, cur = some p → ∃ e ∈ es.toList, ∃ s : Array Nat, seen = s.push e.born ∧ last = clock ∧ e.key = M.ek p.1 ∧ e.val = M.ev p.2)

theorem IterAt.map {M : Mk P T kt et κ ν} {h : Heap} {i r : Nat} {m left : List (κ × ν)} {cur : Option (κ × ν)} (hi : IterAt M h i r m left cur) : MapAt M h r m := by
  obtain ⟨es, clock, since, seen, last, a1, a2, a3, a4, a5, _⟩ := hi
  exact ⟨es, clock, a1, a2, a3, a4, a5⟩
theorem IterAt.ne {M : Mk P T kt et κ ν} {h : Heap} {i r : Nat} {m left : List (κ × ν)} {cur : Option (κ × ν)} (hi : IterAt M h i r m left cur) : i ≠ r := by
  obtain ⟨es, clock, since, seen, last, a1, _, _, _, _, a2, _⟩ := hi
  intro e; subst e; rw [a1] at a2; cases a2
theorem IterAt.lt {M : Mk P T kt et κ ν} {h : Heap} {i r : Nat} {m left : List (κ × ν)} {cur : Option (κ × ν)} (hi : IterAt M h i r m left cur) : i < h.size := by
  obtain ⟨es, clock, since, seen, last, a1, _, _, _, _, a2, _⟩ := hi
  exact at_lt a2
theorem IterAt.upd {M : Mk P T kt et κ ν} {h h' : Heap} {i r : Nat} {m left : List (κ × ν)} {cur : Option (κ × ν)} {S : Nat → Prop} (hi : IterAt M h i r m left cur) (u : Upd S h h') (hs : ¬ S i) (hr : ¬ S r) : IterAt M h' i r m left cur := by
  obtain ⟨es, clock, since, seen, last, a1, b1, b2, b3, b4, a2, rest⟩ := hi
  exact ⟨es, clock, since, seen, last, u.at a1 hr, b1, b2, b3, b4, u.at a2 hs, rest⟩

theorem svc_range {M : Mk P T kt et κ ν} {h : Heap} {r : Nat} {m : List (κ × ν)} {K : Value → Heap → Prop} (hm : MapAt M h r m)
    (k : ∀ h', Keep h.size h h' → h'.size = h.size + 1 → IterAt M h' h.size r m m none → K (.pointer (some ⟨h.size, 0, none⟩)) h') : SVC P (Instr.range T (.map (some r))) h K := by
  obtain ⟨es, clock, hb, he, hn, hc, hbn⟩ := hm
  refine ⟨fun w hw => ?_⟩
  subst hw
  refine ⟨.pointer (some ⟨w.heap.size, 0, none⟩), w.alloc (.mapIter (some r) clock #[] clock), ?_, Sane.push rfl, k _ (Keep.push _ _ _ (Nat.le_refl _)) (by show (w.heap.push _).size = _; simp) ⟨es, clock, clock, #[], clock, ?_, he, hn, hc, hbn, ?_, hc, Nat.le_refl _, Nat.le_refl _, ?_, fun p hp => by cases hp⟩⟩
  · have hget : (getObj r).run P w = .ok (.map es clock) w := by simp [getObj, Sem.run, hb]
    simp only [Instr.range, Sem.run_bind, run_underlying M.und, Result.andThen_ok, hget, Sem.run_pure, run_newObj]
    rfl
  · exact push_old _ _ (at_lt hb) |>.trans hb
  · exact push_at _ _
  · rw [leftOf, Array.toList_filter, List.filter_eq_self.2 (by simp)]; exact he

theorem filter_born {l : List MapEntry} {seen : Array Nat} {e : MapEntry} (hn : (l.map (·.born)).Nodup) (he : e ∈ l.filter fun e => !seen.contains e.born) :
    ∃ j, (l.filter fun e => !seen.contains e.born)[j]? = some e ∧ l.filter (fun x => !(seen.push e.born).contains x.born) = (l.filter fun e => !seen.contains e.born).eraseIdx j := by
  have hf : l.filter (fun x => !(seen.push e.born).contains x.born) = (l.filter fun e => !seen.contains e.born).filter fun x => decide (x.born ≠ e.born) := by
    rw [List.filter_filter]
    apply List.filter_congr
    intro x _
    simp only [Array.contains_push]
    by_cases hx : x.born = e.born <;> simp [hx]
  have hnd : ((l.filter fun e => !seen.contains e.born).map (·.born)).Nodup := hn.sublist (List.filter_sublist.map _)
  rw [hf]
  generalize (l.filter fun e => !seen.contains e.born) = L at he hnd
  clear hf hn
  induction L with
  | nil => cases he
  | cons y L ih =>
    simp only [List.map_cons, List.nodup_cons] at hnd
    rcases List.mem_cons.1 he with rfl | he
    · refine ⟨0, rfl, ?_⟩
      simp only [List.eraseIdx_cons_zero, ne_eq, List.filter_cons, not_true_eq_false, decide_false, Bool.false_eq_true, if_false]
      exact List.filter_eq_self.2 fun x hx => by
        simp only [decide_eq_true_eq]
        exact fun hb => hnd.1 (hb ▸ List.mem_map_of_mem hx)
    · obtain ⟨j, h1, h2⟩ := ih he hnd.2
      refine ⟨j + 1, by simpa using h1, ?_⟩
      have : y.born ≠ e.born := fun hb => hnd.1 (hb ▸ List.mem_map_of_mem he)
      simp only [List.filter_cons, this, ne_eq, not_false_eq_true, decide_true, if_true, List.eraseIdx_cons_succ]
      rw [← h2]

theorem svc_next {M : Mk P T kt et κ ν} {h : Heap} {i r : Nat} {m left : List (κ × ν)} {cur : Option (κ × ν)} {ty : TypeId} {K : Value → Heap → Prop} (hi : IterAt M h i r m left cur)
    (k0 : left = [] → K (.tuple #[.bool false]) h)
    (k1 : ∀ j p h', left[j]? = some p → Upd (fun b => b = i) h h' → h'.size = h.size → IterAt M h' i r m (left.eraseIdx j) (some p) → K (.tuple #[.bool true, M.ek p.1, M.ev p.2]) h') :
    SVC P (Instr.next (.pointer (some ⟨i, 0, none⟩)) false ty) h K := by
  have hne := hi.ne
  obtain ⟨es, clock, since, seen, last, hb, he, hn, hc, hbn, hit, hs, hsl, hsc, hleft, hcur⟩ := hi
  refine ⟨fun w hw => ?_⟩
  subst hw
  rcases run_next_at (P := P) w ty i r since last seen es clock hit hb hs hsl with ⟨h0, hr⟩ | ⟨e, hel, w1, hw1, hr⟩
  · refine ⟨_, w, hr, Sane.refl w, k0 ?_⟩
    have : (leftOf es seen).toList = [] := by rw [← Array.length_toList] at h0; exact List.eq_nil_of_length_eq_zero h0
    rw [this] at hleft
    simpa using hleft.symm
  · have hh : w1.heap = w.heap := by rcases hw1 with rfl | rfl <;> rfl
    have hh2 : (setBlock w1 i (.mapIter (some r) since (seen.push e.born) clock)).heap = w.heap.setIfInBounds i (.mapIter (some r) since (seen.push e.born) clock) := by
      show w1.heap.setIfInBounds _ _ = _; rw [hh]
    have hle : e ∈ es.toList.filter fun e => !seen.contains e.born := by
      have : (leftOf es seen).toList = es.toList.filter fun e => !seen.contains e.born := by simp [leftOf]
      rw [← this]; exact hel
    obtain ⟨j, hj, hfj⟩ := filter_born hbn hle
    have hlt : (leftOf es seen).toList = es.toList.filter fun e => !seen.contains e.born := by simp [leftOf]
    rw [hlt] at hleft
    have hjm := congrArg (fun l => l[j]?) hleft
    simp only [List.getElem?_map, hj, Option.map_some] at hjm
    cases hp : left[j]? with
    | none => rw [hp] at hjm; cases hjm
    | some p =>
      rw [hp] at hjm
      simp only [Option.map_some, Option.some.injEq, Prod.mk.injEq] at hjm
      rw [hjm.1, hjm.2] at hr
      have hem : e ∈ es.toList := (List.mem_filter.1 hle).1
      have upd : Upd (fun b => b = i) w.heap (w.heap.setIfInBounds i (.mapIter (some r) since (seen.push e.born) clock)) := setObj_upd _ _ _
      refine ⟨_, _, hr, ?_, ?_⟩
      · rcases hw1 with rfl | rfl <;> exact Sane.set hit rfl hh2
      · rw [hh2]
        refine k1 j p _ hp upd (by simp) ⟨es, clock, since, seen.push e.born, clock, upd.at hb (fun e => hne e.symm), he, hn, hc, hbn, setObj_at (at_lt hit), hs, hsc, hsc, ?_, ?_⟩
        · have : (leftOf es (seen.push e.born)).toList = es.toList.filter fun x => !(seen.push e.born).contains x.born := by simp only [leftOf, Array.toList_filter]
          rw [this, hfj, map_erase, hleft, map_erase]
        · intro q hq
          cases hq
          exact ⟨e, hem, seen, rfl, rfl, hjm.1, hjm.2⟩

theorem reads_entry {M : Mk P T kt et κ ν} {h : Heap} {i r : Nat} {m left : List (κ × ν)} {p : κ × ν} (hi : IterAt M h i r m left (some p)) :
    Reads P (Instr.entry (.pointer (some ⟨i, 0, none⟩))) h (.tuple #[M.ek p.1, M.ev p.2]) := by
  obtain ⟨es, clock, since, seen, last, hb, he, hn, hc, hbn, hit, hs, hsl, hsc, hleft, hcur⟩ := hi
  obtain ⟨e, hem, s, rfl, rfl, hk, hv⟩ := hcur p rfl
  refine ⟨fun w hw => ?_⟩
  subst hw
  rw [run_entry_at (P := P) w i r since s es _ e hit hb hem hbn, hk, hv]

end
end Go.Vc
end

section
set_option linter.unusedSimpArgs false
set_option linter.unusedVariables false
namespace Go.Vc
open Go

/- ------------------------------------------------------------------ bytes -/

def ByteE : Enc UInt8 := ⟨1, fun b => [.int .u8 b.toNat], fun _ => rfl, fun b v h => by simp at h; subst h; exact one_int _ _⟩
abbrev bytesL (s : ByteArray) : List UInt8 := s.data.toList

theorem Sl.byte {h : Heap} {a : Option Addr} {n : Nat} {xs : List UInt8} (hs : Sl ByteE h a n xs) {j : Nat} (hj : j < xs.length) : ∃ p, a = some p ∧ cell h (p.add j) = some (.int .u8 (xs[j].toNat : Int)) := by
  obtain ⟨p, e, hp⟩ := hs.get (List.getElem?_eq_getElem hj)
  refine ⟨p, e, ?_⟩
  have := hp 0 (.int .u8 (xs[j].toNat : Int)) rfl
  rw [show j * ByteE.sz + 0 = j by show j * 1 + 0 = j; omega] at this
  exact this

theorem reads_string {P : Program} {src dst e : TypeId} {h : Heap} {a : Option Addr} {n c : Nat} {xs : List UInt8} (hs : P.underlying src = some (.slice e)) (he : P.underlying e = some (.int .u8))
    (hd : P.underlying dst = some .string) (hsl : Sl ByteE h a n xs) : Reads P (convert src dst (.slice a n c)) h (.string ⟨xs.toArray⟩) := by
  refine ⟨fun w hw => ?_⟩
  subst hw
  have hl := hsl.1
  cases a with
  | none =>
    have : xs = [] := by rcases hsl.2 with e | ⟨p, e, _⟩; exact e; cases e
    subst this
    exact run_convert_bytes_nil (P := P) w src e hs he n c dst hd
  | some p =>
    subst hl
    refine run_convert_bytes_back (P := P) w src dst e p c xs hs he hd fun j hj => ?_
    obtain ⟨q, e, hq⟩ := hsl.byte hj
    cases e
    exact hq

theorem grown_ge (w : World) (n m : Nat) (e : TypeId) : n ≤ grownCap w n m e := by
  unfold grownCap Question.cut
  simp only
  omega

theorem svc_bytes {P : Program} {src dst e : TypeId} {h : Heap} {s : ByteArray} {K : Value → Heap → Prop} (hs : P.underlying src = some .string) (hd : P.underlying dst = some (.slice e))
    (he : P.underlying e = some (.int .u8)) (k : ∀ a c h', Keep h.size h h' → h'.size = h.size + 1 → Sl ByteE h' a s.size (bytesL s) → s.size ≤ c → (∀ i, blk a i → i = h.size) → K (.slice a s.size c) h') :
    SVC P (convert src dst (.string s)) h K := by
  refine ⟨fun w hw => ?_⟩
  subst hw
  refine ⟨_, _, run_bytes_of_string (P := P) w src dst e s hs hd he, Sane.push rfl, k _ _ _ (Keep.push _ _ _ (Nat.le_refl _)) (by show (w.heap.push _).size = _; simp) ⟨?_, .inr ⟨_, rfl, fun i x hx j v hv => ?_⟩⟩ (grown_ge ..) fun i ⟨p, e, hp⟩ => by cases e; exact hp.symm⟩
  · show s.data.toList.length = s.size; rw [Array.length_toList]; rfl
  · match j, hv with
    | 0, hv =>
      simp [ByteE] at hv
      subst hv
      have hi := (List.getElem?_eq_some_iff.1 hx)
      obtain ⟨hi, hxe⟩ := hi
      have e1 : i * ByteE.sz + 0 = i := by show i * 1 + 0 = i; omega
      rw [Addr.add_row, e1, Nat.zero_add]
      show cell (w.heap.push _) _ = _
      unfold cell
      simp only [Array.getElem?_push_size, Option.isSome_none, Bool.false_eq_true, if_false]
      have hi' : i < s.data.size := by simpa [bytesL] using hi
      have hx' : s.data[i] = x := by simpa [bytesL] using hxe
      rw [bytesRow, Array.getElem?_append_left (by simpa using hi')]
      rw [Array.getElem?_map, Array.getElem?_eq_getElem hi', hx']; rfl
    | j + 1, hv => simp [ByteE] at hv

/-- what a copy into a row of the call's own leaves. -/
theorem svc_copy_into {α : Type} {E : Enc α} {P : Program} {dT sT e T : TypeId} {ty : TypeId} {h : Heap} {b o dl dc : Nat} {old : Array Value} {A : Option Addr} {n c : Nat} {xs : List α} {K : Value → Heap → Prop}
    (hd : P.underlying dT = some (.slice e)) (hz : szOf P e = some E.sz) (hb : h[b]? = some (.cells old T (0, 0))) (ho : o + min n dl * E.sz ≤ old.size) (hsl : Sl E h A n xs)
    (k : ∀ h', h'.size = h.size → h'[b]? = some (.cells (putL old.toList o ((xs.take (min n dl)).flatMap E.enc)).toArray T (0, 0)) → (∀ i, i ≠ b → h'[i]? = h[i]?) → K (.int .i64 (min n dl : Nat)) h') :
    SVC P (Builtin.copy_ #[dT, sT] ty #[.slice (some ⟨b, o, none⟩) dl dc, .slice A n c]) h K := by
  refine ⟨fun w hw => ?_⟩
  subst hw
  have hl := hsl.1
  have hfl : ((xs.take (min n dl)).flatMap E.enc).length = min n dl * E.sz := by rw [flat_len, List.length_take, hl]; congr 1; omega
  have hread : (Builtin.firstCells E.sz (min n dl) (.slice A n c)).run P w = .ok ((xs.take (min n dl)).flatMap E.enc).toArray w := by
    rcases hsl.2 with rfl | ⟨p, rfl, hp⟩
    · simp at hl; subst hl
      cases A with
      | none => simp [Builtin.firstCells]
      | some p => simp only [Builtin.firstCells]; exact run_loadCells (by simp) (by simp)
    · simp only [Builtin.firstCells]
      refine run_loadCells hfl fun j v hv => ?_
      have hj := (List.getElem?_eq_some_iff.1 hv).1
      rw [hfl] at hj
      have hez : 0 < E.sz := Nat.pos_of_ne_zero fun e => by rw [e] at hj; omega
      have hq : j / E.sz < min n dl := (Nat.div_lt_iff_lt_mul hez).2 hj
      have hx : (xs.take (min n dl))[j / E.sz]? = some (xs[j / E.sz]'(by omega)) := by rw [List.getElem?_take, if_pos hq, List.getElem?_eq_getElem]
      have hm : j % E.sz < (E.enc (xs[j / E.sz]'(by omega))).length := by rw [E.len]; exact Nat.mod_lt _ hez
      have := flat_get (E := E) (xs.take (min n dl)) hx (List.getElem?_eq_getElem hm)
      have hjd : j / E.sz * E.sz + j % E.sz = j := by rw [Nat.mul_comm]; exact Nat.div_add_mod j E.sz
      rw [hjd] at this
      rw [this] at hv
      have hc := hp (j / E.sz) _ (List.getElem?_eq_getElem (by omega)) (j % E.sz) v ((List.getElem?_eq_getElem hm).trans hv)
      rw [hjd] at hc
      exact hc
  obtain ⟨w', cells', h1, h2, h3, h4, h5, h6, h7⟩ := run_storeCells (P := P) b T ((xs.take (min n dl)).flatMap E.enc) o old w 0 hb (by rw [hfl]; omega) (fun v hv => by
    obtain ⟨x, _, hx⟩ := List.mem_flatMap.1 hv
    exact E.one x v hx)
  refine ⟨.int .i64 (min n dl : Nat), w', ?_, h2, k _ h3 ?_ h7⟩
  · have hso : (sizeOf e).run P w = .ok E.sz w := run_szOf hz w
    simp [Builtin.copy_, run_underlying hd, Builtin.lenOf, hso, hread, h1, goInt]
  · rw [h4]
    have : cells'.toList = putL old.toList o ((xs.take (min n dl)).flatMap E.enc) := by rw [h6]; rfl
    rw [← this]

/- ------------------------------------------------------------------ keys that are a string with a number -/

section
variable {P : Program} {T kt et : TypeId}

theorem findAsking_eq {κ ν : Type} [DecidableEq κ] {ek : κ → Value} {ev : ν → Value} (hs : ∀ a b (w : World), (Op.equal kt (ek a) (ek b)).run P w = .ok (decide (b = a)) w) (k : κ) (w : World) :
    ∀ (es : List MapEntry) (m : List (κ × ν)) (i : Nat), es.map (fun e => (e.key, e.val)) = m.map (fun p => (ek p.1, ev p.2)) →
    (Instr.findAsking kt (ek k) es i).run P w = .ok ((mIdx m k).bind fun j => (m[j]?).map fun p => (i + j, ev p.2)) w
  | [], [], i, _ => rfl
  | [], _ :: _, i, h => by simp at h
  | _ :: _, [], i, h => by simp at h
  | e :: es, p :: m, i, h => by
    simp only [List.map_cons, List.cons.injEq, Prod.mk.injEq] at h
    obtain ⟨⟨h1, h2⟩, h3⟩ := h
    unfold Instr.findAsking
    rw [Sem.run_bind, h1, hs, Result.andThen_ok]
    by_cases hk : p.1 = k
    · simp [mIdx, List.findIdx?_cons, hk, h2]
    · simp only [hk, decide_false, Bool.false_eq_true, if_false]
      rw [findAsking_eq hs k w es m (i + 1) h3]
      simp only [mIdx, List.findIdx?_cons, hk, decide_false, Bool.false_eq_true, if_false]
      cases m.findIdx? fun p => decide (p.1 = k) with
      | none => rfl
      | some j => simp [Nat.add_assoc, Nat.add_comm 1]

theorem run_part_sc {t : TypeId} {cs : Array Value} {o : Nat} {v : Value} (ht : scT P t = true) (hv : cs[o]? = some v) (w : World) : (part t cs o).run P w = .ok v w := by
  simp [part, run_isAgg_sc ht, hv]

def keyV (k : ByteArray × Int) : Value := .agg #[.string k.1, .int .i64 k.2]

/-- a map keyed by a struct of a string and an int. -/
def pairMk (P : Program) (T kt et : TypeId) (ν : Type) (ev : ν → Value) (f0 f1 : Field) (hT : P.underlying T = some (.map kt et)) (hf : Flat P kt #[f0, f1]) (n0 : f0.name ≠ "_") (n1 : f1.name ≠ "_") (o0 : f0.offset = 0) (o1 : f1.offset = 1)
    (u0 : P.underlying f0.type = some .string) (u1 : P.underlying f1.type = some (.int .i64)) : Mk P T kt et (ByteArray × Int) ν where
  ek := keyV
  ev := ev
  und := hT
  find := fun k es m w he => by
    have heq : ∀ (a b : ByteArray × Int) (w : World), (Op.equal kt (keyV a) (keyV b)).run P w = .ok (decide (b = a)) w := fun a b w => by
      have hfo : P.fieldsOf kt = #[f0, f1] := by simp [Program.fieldsOf, hf.und]
      have a0 : aggT P f0.type = false := by simp [aggT, u0]
      have a1 : aggT P f1.type = false := by simp [aggT, u1]
      have e : eqFl P (#[Value.string a.1, .int .i64 a.2] : Array Value).toList (#[Value.string b.1, .int .i64 b.2] : Array Value).toList (#[f0, f1] : Array Field).toList = some (a.1.toList == b.1.toList && (a.2 == b.2 && true)) := by
        have b0 : (f0.name == "_") = false := by simp [n0]
        have b1 : (f1.name == "_") = false := by simp [n1]
        have e1 : eqSc (P.underlying f1.type) (.int .i64 a.2) (.int .i64 b.2) = some (a.2 == b.2) := by rw [u1]; rfl
        have e0 : eqSc (P.underlying f0.type) (.string a.1) (.string b.1) = some (a.1.toList == b.1.toList) := by rw [u0]; rfl
        simp only [eqFl, b0, b1, o0, o1, a0, a1, List.getElem?_cons_zero, List.getElem?_cons_succ, e0, e1]
      have : decide (b = a) = (a.1.toList == b.1.toList && (a.2 == b.2 && true)) := by
        rw [← beq_toListBytes, beq_dec, Bool.and_true]
        by_cases h1 : b.1 = a.1 <;> by_cases h2 : a.2 = b.2
        · simp [h1, h2, Prod.ext_iff]
        · simp [h1, h2, Prod.ext_iff, Ne.symm h2]
        · simp [h1, h2, Prod.ext_iff]
        · simp [h1, h2, Prod.ext_iff]
      rw [this]
      unfold Op.equal Op.maxDepth keyV
      rw [run_equalIn_struct (P := P) w 9999 kt _ _ (by rw [hfo]; exact hf.und) hf.held, hfo]
      exact run_eqFl 9998 w e
    have hu : (underlying kt).run P w = .ok (.struct #[f0, f1]) w := run_underlying hf.und w
    unfold Instr.findKey
    rw [Sem.run_bind, hu, Result.andThen_ok]
    cases es with
    | nil =>
      cases m with
      | nil => rfl
      | cons _ _ => simp at he
    | cons e es =>
      have hn : Instr.findNow (.struct #[f0, f1]) (keyV k) (e :: es) 0 = none := by simp [Instr.findNow, Instr.sameNow]
      rw [hn]
      have := findAsking_eq (P := P) (kt := kt) (ek := keyV) (ev := ev) heq k w (e :: es) m 0 he
      simpa using this
  check := fun k b w => by
    have hu : ∀ w, (underlying kt).run P w = .ok (.struct #[f0, f1]) w := fun w => run_underlying hf.und w
    have s0 : scT P f0.type = true := by simp [scT, u0]
    have s1 : scT P f1.type = true := by simp [scT, u1]
    have p0 : (part f0.type #[Value.string k.1, .int .i64 k.2] 0).run P w = .ok (.string k.1) w := run_part_sc s0 rfl w
    have p1 : (part f1.type #[Value.string k.1, .int .i64 k.2] 1).run P w = .ok (.int .i64 k.2) w := run_part_sc s1 rfl w
    have c0 := check_string (P := P) u0 9998 b k.1 w
    have c1 := check_int (P := P) u1 9998 b k.2 w
    unfold Instr.checkKey keyV
    simp [hu, n0, n1, o0, o1, p0, p1, c0, c1]
  bits := fun k => by
    have hb : (k.1 == k.1) = true := by rw [beq_dec]; simp
    simp [keyV, Instr.sameBits, bits_string, bits_int, hb]
end
end Go.Vc
end

section
set_option linter.unusedSimpArgs false
set_option linter.unusedVariables false
set_option linter.unusedSectionVars false
namespace Go.Vc
open Go

theorem reads_eql_nil {P : Program} {t : TypeId} {x y : Operand} {p : Option Addr} {h : Heap} (ht : P.underlying t = some (.pointer (P.pointee t))) :
    Reads P (eqSem .eql t x y (.pointer p) (.pointer none)) h (.bool p.isNone) :=
  ⟨fun w _ => by simp [eqSem, eqGuard, run_eql_pointer_nil w t p ht]⟩
theorem reads_neq_nil {P : Program} {t : TypeId} {x y : Operand} {p : Option Addr} {h : Heap} (ht : P.underlying t = some (.pointer (P.pointee t))) :
    Reads P (eqSem .neq t x y (.pointer p) (.pointer none)) h (.bool !p.isNone) :=
  ⟨fun w _ => by simp [eqSem, eqGuard, run_neq_pointer_nil w t p ht]⟩
theorem reads_max {P : Program} {ts : Array TypeId} {t : TypeId} {k : IntKind} {a b : Int} {h : Heap} : Reads P (Builtin.max_ ts t #[.int k a, .int k b]) h (.int k (if b > a then b else a)) :=
  ⟨fun w _ => run_max_int2 (P := P) w ts t k k a b⟩
theorem reads_min {P : Program} {ts : Array TypeId} {t : TypeId} {k : IntKind} {a b : Int} {h : Heap} : Reads P (Builtin.min_ ts t #[.int k a, .int k b]) h (.int k (if b < a then b else a)) :=
  ⟨fun w _ => by simp [Builtin.min_, Builtin.min2]⟩

theorem cell_cells {h : Heap} {b : Nat} {c : Array Value} {T : TypeId} {f : Nat × Nat} {k : Nat} {v : Value} (hb : h[b]? = some (.cells c T f)) (hk : c[k]? = some v) : cell h ((⟨b, 0, none⟩ : Addr).add k) = some v := by
  rw [Addr.add_row, Nat.zero_add, cell_at hb]; exact hk
theorem cell_cells0 {h : Heap} {b : Nat} {c : Array Value} {T : TypeId} {f : Nat × Nat} {v : Value} (hb : h[b]? = some (.cells c T f)) (hk : c[0]? = some v) : cell h (⟨b, 0, none⟩ : Addr) = some v := by
  rw [cell_at hb]; exact hk
/-- one cell of a box is written. -/
theorem svc_store_box {P : Program} {t T b k : Nat} {h : Heap} {old : Array Value} {v : Value} {K : Unit → Heap → Prop} (hsz : szOf P t = some 1) (hb : h[b]? = some (.cells old T (0, 0)))
    (ho : k < old.size) (hc : v.cells = #[v]) (hone : (∀ c, v ≠ .agg c) ∧ (∀ c, v ≠ .tuple c))
    (kk : ∀ h', h'.size = h.size → h'[b]? = some (.cells (old.toList.set k v).toArray T (0, 0)) → Upd (fun i => i = b) h h' → K () h') : SVC P (Instr.storeAt t (.pointer (some ((⟨b, 0, none⟩ : Addr).add k))) v) h K := by
  rw [Addr.add_row, Nat.zero_add]
  exact svc_store_cell hsz hb ho hc hone fun h' h1 h2 h3 => kk h' h1 h2 (upd_of_one h1 h3)
theorem Upd.of_sub {S T : Nat → Prop} {h h' : Heap} (u : Upd S h h') (hs : ∀ i, i < h.size → S i → T i) : Upd T h h' := ⟨u.size, fun i hi ht => u.block i hi fun hS => ht (hs i hi hS)⟩
theorem Upd.trans' {S : Nat → Prop} {a b c : Heap} (h : Upd S a b) (k : Upd (fun q => S q ∨ (a.size ≤ q ∧ q < b.size)) b c) : Upd S a c :=
  ⟨Nat.le_trans h.size k.size, fun i hi hs => (k.block i (Nat.lt_of_lt_of_le hi h.size) (fun h0 => h0.elim hs (fun h0 => by omega))).trans (h.block i hi hs)⟩
theorem Upd.keep' {S : Nat → Prop} {a b c : Heap} (h : Upd S a b) (k : Keep b.size b c) : Upd S a c := h.trans (k.upd S)
theorem cells_all {h : Heap} {b : Nat} {cs : List Value} {T : TypeId} {f : Nat × Nat} (hb : h[b]? = some (.cells cs.toArray T f)) : ∀ j v, cs[j]? = some v → cell h ((⟨b, 0, none⟩ : Addr).add j) = some v :=
  fun j v hv => cell_cells hb (by simpa using hv)
theorem cells_part {h : Heap} {b : Nat} {cs xs : List Value} {T : TypeId} {f : Nat × Nat} {k : Nat} (hb : h[b]? = some (.cells cs.toArray T f)) (hx : ∀ j v, xs[j]? = some v → cs[k + j]? = some v) :
    ∀ j v, xs[j]? = some v → cell h (((⟨b, 0, none⟩ : Addr).add k).add j) = some v := fun j v hv => by
  rw [Addr.add_add]; exact cell_cells hb (by simpa using hx j v hv)
theorem push2_0 (h : Heap) (a b : Obj) : ((h.push a).push b)[h.size]? = some a := by
  rw [Array.getElem?_push, if_neg (by simp), Array.getElem?_push, if_pos rfl]
theorem push2_1 (h : Heap) (a b : Obj) : ((h.push a).push b)[h.size + 1]? = some b := by
  rw [Array.getElem?_push, if_pos (by simp)]
theorem push3_0 (h : Heap) (a b c : Obj) : (((h.push a).push b).push c)[h.size]? = some a := by
  rw [Array.getElem?_push, if_neg (by simp; omega)]; exact push2_0 h a b
theorem push3_1 (h : Heap) (a b c : Obj) : (((h.push a).push b).push c)[h.size + 1]? = some b := by
  rw [Array.getElem?_push, if_neg (by simp)]; exact push2_1 h a b
theorem push3_2 (h : Heap) (a b c : Obj) : (((h.push a).push b).push c)[h.size + 2]? = some c := by
  rw [Array.getElem?_push, if_pos (by simp)]
theorem keep_push (h : Heap) (o : Obj) : Keep h.size h (h.push o) := Keep.push h.size h o (Nat.le_refl _)
/-- some cells of a box of the call's own are written. -/
theorem svc_store_at {P : Program} {t T b o : Nat} {h : Heap} {old : Array Value} {v : Value} {K : Unit → Heap → Prop} (hsz : szOf P t = some v.cells.size) (hb : h[b]? = some (.cells old T (0, 0)))
    (hlen : o + v.cells.size ≤ old.size) (hone : oneCells v.cells.toList)
    (k : ∀ h', h'.size = h.size → h'[b]? = some (.cells (putL old.toList o v.cells.toList).toArray T (0, 0)) → Upd (fun i => i = b) h h' → K () h') : SVC P (Instr.storeAt t (.pointer (some ⟨b, o, none⟩)) v) h K := by
  refine ⟨fun w hw => ?_⟩
  subst hw
  obtain ⟨w', cells', h1, h2, h3, h4, h5, h6, h7⟩ := run_storeCells (P := P) b T v.cells.toList o old w 0 hb (by simpa using hlen) hone
  refine ⟨(), w', ?_, h2, k _ h3 ?_ (upd_of_one h3 h7)⟩
  · simp only [Instr.storeAt, Instr.sureAddr, Sem.run_bind, Sem.run_pure, Result.andThen_ok, storeVar, run_szOf hsz, ne_eq, not_true, if_false]
    exact h1
  · rw [h4]
    have : cells'.toList = putL old.toList o v.cells.toList := by rw [h6]; rfl
    rw [← this]

theorem Sl.upd {α : Type} {E : Enc α} {h h' : Heap} {a : Option Addr} {n : Nat} {xs : List α} {S : Nat → Prop} (hs : Sl E h a n xs) (u : Upd S h h') (hS : ∀ b, blk a b → ¬ S b) : Sl E h' a n xs :=
  ⟨hs.1, hs.2.imp id fun ⟨p, e, hp⟩ => ⟨p, e, fun i x hx j v hv => by
    have hc := hp i x hx j v hv
    have hb : (p.add (i * E.sz + j)).block = p.block := Addr.add_block _ _
    rw [cell_congr (h := h) (u.block _ (cell_lt hc) (by rw [hb]; exact hS _ ⟨p, e, rfl⟩))]
    exact hc⟩⟩
/-- a slice's literal of one whole element. -/
theorem bs_one {P : Program} {t e : TypeId} {sz : Nat} {z v : Value} (hu : P.underlying t = some (.slice e)) (hs : szOf P e = some sz) (hz : (P.info? e).bind (·.zero) = some z) (hz' : z.cells.size = sz)
    (hle : sz ≤ 4096) (hp : 0 < sz) (hv : v.cells.size = sz) : bsCells P t 1 [(0, v)] = some (e, v.cells.toList) := by
  unfold bsCells
  rw [hu]
  simp only [hs, hz]
  have h1 : (Nat.ble (1 * sz) 4096 && !(Nat.beq (1 * sz) 0)) = true := by
    rw [Nat.one_mul, Bool.and_eq_true]
    refine ⟨Nat.ble_eq_true_of_le hle, ?_⟩
    cases hb : Nat.beq sz 0 with
    | false => rfl
    | true => have := Nat.eq_of_beq_eq_true hb; omega
  rw [h1]
  have hl : v.cells.toList.length = sz := by rw [Array.length_toList]; exact hv
  have h2 : (Nat.beq v.cells.toList.length sz && Nat.ble (0 * sz + v.cells.toList.length) (zerosL z.cells.toList (1 * sz)).length) = true := by
    rw [Bool.and_eq_true, hl]
    refine ⟨Nat.beq_refl _, Nat.ble_eq_true_of_le ?_⟩
    simp [zerosL]
  have h3 : putL (zerosL z.cells.toList (1 * sz)) (0 * sz) v.cells.toList = v.cells.toList := by
    rw [Nat.zero_mul]; exact putL_all _ _ (by simp [zerosL, hv])
  simp only [fillL, h2, h3]
theorem sl_bytes {h : Heap} {b : Nat} {xs : List UInt8} {T : TypeId} {f : Nat × Nat} (hb : h[b]? = some (.cells (xs.flatMap ByteE.enc).toArray T f)) : Sl ByteE h (some ⟨b, 0, none⟩) xs.length xs :=
  ⟨rfl, .inr ⟨_, rfl, fun i x hx j v hv => by
    rw [Addr.add_row, Nat.zero_add, cell_at hb]
    simpa using flat_get (E := ByteE) xs hx hv⟩⟩
/-- how many entries a loop over a map has left. -/
def leftN (h : Heap) (i : Nat) : Nat := match h[i]? with
  | some (.mapIter (some m) _ seen _) => (match h[m]? with | some (.map es _) => (leftOf es seen).size | _ => 0)
  | _ => 0
theorem IterAt.leftN {κ ν : Type} [DecidableEq κ] {P : Program} {T kt et : TypeId} {M : Mk P T kt et κ ν} {h : Heap} {i r : Nat} {m left : List (κ × ν)} {cur : Option (κ × ν)} (hi : IterAt M h i r m left cur) : Vc.leftN h i = left.length := by
  obtain ⟨es, clock, since, seen, last, e1, _, _, _, _, e2, _, _, _, e3, _⟩ := hi
  unfold Vc.leftN
  rw [e2]
  simp only [e1]
  have := congrArg List.length e3
  simpa using this
/-- an entry taken out of what is left. -/
theorem mem_erase {κ ν : Type} : ∀ (l : List (κ × ν)) (j : Nat) (p : κ × ν), l[j]? = some p → ∀ q, q ∈ mKeys l ↔ q = p.1 ∨ q ∈ mKeys (l.eraseIdx j)
  | [], j, p, h, _ => by simp at h
  | a :: l, 0, p, h, q => by simp at h; subst h; simp [mKeys]
  | a :: l, j + 1, p, h, q => by
    have := mem_erase l j p (by simpa using h) q
    simp only [mKeys, List.eraseIdx_cons_succ, List.map_cons, List.mem_cons] at this ⊢
    rw [this]
    exact ⟨fun h => h.elim (fun h => .inr (.inl h)) (fun h => h.elim .inl (fun h => .inr (.inr h))), fun h => h.elim (fun h => .inr (.inl h)) (fun h => h.elim .inl (fun h => .inr (.inr h)))⟩

/- ------------------------------------------------------------------ sums over the entries of a map -/
section
variable {κ : Type} [DecidableEq κ]
def sumV (l : List (κ × Int)) : Int := (l.map (·.2)).sum
theorem sumV_erase (l : List (κ × Int)) : ∀ (j : Nat) (p : κ × Int), l[j]? = some p → sumV (l.eraseIdx j) = sumV l - p.2 := by
  induction l with
  | nil => intro j p h; simp at h
  | cons a l ih =>
    intro j p h
    cases j with
    | zero => simp at h; subst h; simp [sumV]; omega
    | succ j => have := ih j p (by simpa using h); simp [sumV] at this ⊢; omega
theorem sumV_nonneg {l : List (κ × Int)} (h : ∀ p ∈ l, 0 ≤ p.2) : 0 ≤ sumV l := by
  induction l with
  | nil => simp [sumV]
  | cons a l ih =>
    have h1 := h a List.mem_cons_self
    have h2 := ih fun p hp => h p (List.mem_cons_of_mem _ hp)
    simp [sumV] at h2 ⊢; omega
theorem mGet_mem {ν : Type} {m : List (κ × ν)} (hn : (mKeys m).Nodup) (k : κ) (v : ν) : (k, v) ∈ m ↔ mGet m k = some v := by
  induction m with
  | nil => simp [mGet]
  | cons p m ih =>
    simp only [mKeys, List.map_cons, List.nodup_cons] at hn
    by_cases h : p.1 = k
    · subst h
      simp only [List.mem_cons, mGet, if_true, Option.some.injEq]
      constructor
      · rintro (h | h)
        · rw [← h]
        · exact absurd (List.mem_map_of_mem (f := (·.1)) h) hn.1
      · intro h; left; rw [← h]
    · simp only [List.mem_cons, mGet, if_neg h, ← ih hn.2]
      exact ⟨fun h0 => h0.resolve_left fun e => h (by rw [← e]), .inr⟩
theorem perm_of_get {ν : Type} [DecidableEq ν] {m l : List (κ × ν)} (hm : (mKeys m).Nodup) (hl : (mKeys l).Nodup) (h : ∀ k, mGet m k = mGet l k) : m.Perm l := by
  have nd : ∀ {m : List (κ × ν)}, (mKeys m).Nodup → m.Nodup := fun h => (List.Pairwise.of_map (·.1) (fun a b h e => h (by rw [e])) h)
  refine (List.perm_ext_iff_of_nodup (nd hm) (nd hl)).2 fun p => ?_
  rw [show p = (p.1, p.2) from rfl, mGet_mem hm, mGet_mem hl, h]
theorem sumV_perm {m l : List (κ × Int)} (h : m.Perm l) : sumV m = sumV l := by
  induction h with
  | nil => rfl
  | cons x _ ih => simp [sumV] at ih ⊢; omega
  | swap x y l => simp [sumV]; omega
  | trans _ _ h1 h2 => exact h1.trans h2
end
end Go.Vc
end

section
set_option linter.unusedVariables false
namespace Go.Vc
open Go Go.RowKit

theorem calls_of_HC {P : Program} {f : FuncId} {args : Array Value} {w : World} {v0 : Value} (h : HC P f args w.heap fun v h' => Keep w.heap.size w.heap h' ∧ v = v0) :
    Calls P f args w fun e w' => e = .returned v0 ∧ Below w.heap.size w w' :=
  (h.run w rfl).mono fun e w' ⟨v, he, hs, hk, hv⟩ => by
    subst hv
    exact ⟨he, hs.os, hs.tape, hs.output, hk.size, hk.block⟩

def StrPairE : Enc (ByteArray × ByteArray) := ⟨2, fun p => [.string p.1, .string p.2], fun _ => rfl, fun p v h => by
  simp at h; rcases h with rfl | rfl <;> exact one_string _⟩
def strOf : Value → ByteArray | .string s => s | _ => ⟨#[]⟩

end Go.Vc
end

section
set_option linter.unusedVariables false
namespace Go.Vc
open Go Go.RowKit

/-- what a row of cells that reads at type e is, over its world. -/
def DecW {α : Type} (E : Enc α) (P : Program) (e : TypeId) (good : World → α → Prop) : Prop :=
  ∀ {H : Type} {enc : TypeId × Value → H} {w : World} {base : Nat} {spare : Nat → Bool} {held : Bool} {n : Nat} {cs : List Value} {d : DataW H × List MemPlace},
    DataW.trod enc P w base spare held n e cs = some d → ∃ x, cs = E.enc x ∧ good w x

def SliceE : Enc (Option Addr × Nat × Nat) := ⟨1, fun s => [.slice s.1 s.2.1 s.2.2], fun _ => rfl, fun p v h => by simp at h; subst h; exact one_slice _ _ _⟩
def IntE (k : IntKind) : Enc Int := ⟨1, fun n => [.int k n], fun _ => rfl, fun p v h => by simp at h; subst h; exact one_int _ _⟩
def BoolE : Enc Bool := ⟨1, fun b => [.bool b], fun _ => rfl, fun p v h => by simp at h; subst h; exact one_bool _⟩
def StrE : Enc ByteArray := ⟨1, fun s => [.string s], fun _ => rfl, fun p v h => by simp at h; subst h; exact one_string _⟩

theorem wf_bounds {k : IntKind} {n : Int} (h : (Lit.int k n).wf = true) : k.min ≤ n ∧ n ≤ k.max := by
  simpa [Lit.wf] using h
theorem decInt {P : Program} {e : TypeId} {k : IntKind} (he : P.underlying e = some (.int k)) : DecW (IntE k) P e fun _ n => k.min ≤ n ∧ n ≤ k.max := fun h => by
  obtain ⟨n, rfl, _, hw⟩ := DataW.trod_int he h
  exact ⟨n, rfl, wf_bounds hw⟩
theorem decBool {P : Program} {e : TypeId} (he : P.underlying e = some .bool) : DecW BoolE P e fun _ _ => True := fun h => by
  obtain ⟨n, rfl, _⟩ := DataW.trod_bool he h
  exact ⟨n, rfl, trivial⟩
/-- a slice, read as a list. -/
def SlG {α : Type} (E : Enc α) (good : World → α → Prop) (w : World) (s : Option Addr × Nat × Nat) : Prop :=
  ∃ xs, Sl E w.heap s.1 s.2.1 xs ∧ s.2.1 ≤ s.2.2 ∧ s.2.1 ≤ 9223372036854775807 ∧ ∀ x ∈ xs, good w x
theorem i64_rng {n : Int} (h : IntKind.i64.min ≤ n ∧ n ≤ IntKind.i64.max) : -9223372036854775808 ≤ n ∧ n ≤ 9223372036854775807 := by
  have e1 : IntKind.i64.min = -9223372036854775808 := by decide
  have e2 : IntKind.i64.max = 9223372036854775807 := by decide
  omega
end Go.Vc
end

section
set_option linter.unusedSimpArgs false
set_option linter.unusedVariables false
namespace Go.Vc
open Go

theorem putL_nil_off : ∀ (vs xs rest : List Value) (k : Nat), k = xs.length → vs.length ≤ rest.length → putL (xs ++ rest) k vs = xs ++ vs ++ rest.drop vs.length := fun vs xs rest k hk h => by
  subst hk; exact putL_prefix vs xs rest h
theorem putL_flat {α : Type} {E : Enc α} (R : List α) (rest : List Value) (i : Nat) (x : α) (hi : i < R.length) : putL (R.flatMap E.enc ++ rest) (i * E.sz) (E.enc x) = (R.set i x).flatMap E.enc ++ rest := by
  have h1 : R = R.take i ++ R[i] :: R.drop (i + 1) := by simp
  have h2 : R.set i x = R.take i ++ x :: R.drop (i + 1) := by rw [List.set_eq_take_append_cons_drop, if_pos hi]
  have hl : ((R.take i).flatMap E.enc).length = i * E.sz := by rw [flat_len, List.length_take]; congr 1; omega
  have e0 : R.flatMap E.enc = (R.take i).flatMap E.enc ++ (E.enc R[i] ++ (R.drop (i + 1)).flatMap E.enc) := by
    have := congrArg (List.flatMap E.enc) h1
    rw [List.flatMap_append, List.flatMap_cons] at this
    exact this
  have e1 : R.flatMap E.enc ++ rest = (R.take i).flatMap E.enc ++ (E.enc R[i] ++ ((R.drop (i + 1)).flatMap E.enc ++ rest)) := by
    rw [e0, List.append_assoc, List.append_assoc]
  rw [e1, putL_nil_off _ _ _ _ hl.symm (by simp [E.len]), h2]
  have e2 : (E.enc R[i] ++ ((R.drop (i + 1)).flatMap E.enc ++ rest)).drop (E.enc x).length = (R.drop (i + 1)).flatMap E.enc ++ rest := by
    rw [E.len, ← E.len R[i], List.drop_left]
  rw [e2]
  simp [List.flatMap_append, List.flatMap_cons, List.append_assoc]
theorem putL_take : ∀ (vs cs : List Value) (o : Nat), (putL cs o vs).take o = cs.take o
  | [], cs, o => rfl
  | v :: vs, cs, o => by
    have h1 := putL_take vs (cs.set o v) (o + 1)
    have : (putL (cs.set o v) (o + 1) vs).take o = ((putL (cs.set o v) (o + 1) vs).take (o + 1)).take o := by rw [List.take_take]; congr 1; omega
    show (putL (cs.set o v) (o + 1) vs).take o = cs.take o
    rw [this, h1, List.take_take, show min o (o + 1) = o by omega, List.take_set_of_le (Nat.le_refl _)]

theorem svc_clear_tail {P : Program} {t e sz : Nat} {z : Value} {ty : TypeId} {h : Heap} {b o m c : Nat} {old : Array Value} {T : TypeId} {K : Value → Heap → Prop} (hu : P.underlying t = some (.slice e)) (hz : (P.info? e).bind (·.zero) = some z)
    (hzs : z.cells.size = sz) (hone : oneCells z.cells.toList) (hb : h[b]? = some (.cells old T (0, 0))) (ho : o + m * sz ≤ old.size)
    (k : ∀ h' cells', h'.size = h.size → h'[b]? = some (.cells cells' T (0, 0)) → cells'.size = old.size → cells'.toList.take o = old.toList.take o → Upd (fun i => i = b) h h' → K (.tuple #[]) h') :
    SVC P (Builtin.clear_ #[t] ty #[.slice (some ⟨b, o, none⟩) m c]) h K := by
  refine ⟨fun w hw => ?_⟩
  subst hw
  have hzero : (zeroValue e).run P w = .ok z w := by
    cases hi : P.info? e with
    | none => simp [hi] at hz
    | some i => simp [hi] at hz; simp [zeroValue, typeInfo, hi, hz]
  cases m with
  | zero => exact ⟨.tuple #[], w, by simp [Builtin.clear_, run_underlying hu], Sane.refl w, k _ old rfl hb rfl rfl (Upd.refl _ _)⟩
  | succ m =>
    have hzc : (Builtin.zeroCells z.cells (m + 1)).size = (m + 1) * sz := by simp [Builtin.zeroCells, hzs]
    have honeZ : ∀ v ∈ (Builtin.zeroCells z.cells (m + 1)).toList, (∀ c, v ≠ .agg c) ∧ (∀ c, v ≠ .tuple c) := fun v hv => by
      simp only [Builtin.zeroCells, Array.toList_map, Array.toList_range, List.mem_map, List.mem_range] at hv
      obtain ⟨i, hi, rfl⟩ := hv
      have hp : 0 < z.cells.size := Nat.pos_of_ne_zero fun e0 => by rw [e0] at hi; omega
      have hlt : i % z.cells.size < z.cells.size := Nat.mod_lt _ hp
      rw [getElem!_pos z.cells (i % z.cells.size) hlt]
      exact hone _ (by simp)
    obtain ⟨w', cells', h1, h2, h3, h4, h5, h6, h7⟩ := run_storeCells (P := P) b T (Builtin.zeroCells z.cells (m + 1)).toList o old w 0 hb (by simp [hzc]; omega) honeZ
    refine ⟨.tuple #[], w', ?_, h2, k _ cells' h3 h4 h5 ?_ (upd_of_one h3 h7)⟩
    · simp [Builtin.clear_, run_underlying hu, hzero]
      rw [h1]; rfl
    · rw [h6]; exact putL_take _ _ _
end Go.Vc
end

section
set_option linter.unusedSimpArgs false
set_option linter.unusedVariables false
namespace Go.Vc
open Go

section
variable {α : Type} {E : Enc α} {N M : Nat → Prop} {h h' : Heap} {a : Option Addr} {n : Nat} {xs : List α}
/-- blocks of a set all lie in a heap. -/
def Nb (N : Nat → Prop) (h : Heap) : Prop := ∀ q, N q → q < h.size
theorem Nb.mono {N : Nat → Prop} (hN : Nb N h) (hs : h.size ≤ h'.size) : Nb N h' := fun q hq => Nat.lt_of_lt_of_le (hN q hq) hs
def SlN (E : Enc α) (N : Nat → Prop) (h : Heap) (a : Option Addr) (n : Nat) (xs : List α) : Prop := Sl E h a n xs ∧ (xs ≠ [] → ∀ q, blk a q → ¬ N q)
theorem SlN.nil (N : Nat → Prop) (h : Heap) (a : Option Addr) : SlN E N h a 0 [] := ⟨Sl.nil _ _, fun h => absurd rfl h⟩
theorem SlN.len (hs : SlN E N h a n xs) : xs.length = n := hs.1.1
theorem SlN.sl (hs : SlN E N h a n xs) : Sl E h a n xs := hs.1
theorem SlN.upd (hs : SlN E N h a n xs) (u : Upd N h h') : SlN E N h' a n xs := by
  by_cases hx : xs = []
  · subst hx
    exact ⟨⟨hs.1.1, .inl rfl⟩, fun h => absurd rfl h⟩
  · exact ⟨hs.1.upd u (hs.2 hx), hs.2⟩
theorem SlN.keep (hs : SlN E N h a n xs) (k : Keep h.size h h') : SlN E N h' a n xs := hs.upd (k.upd N)
theorem SlN.lt (hz : 0 < E.sz) (hs : SlN E N h a n xs) (hx : xs ≠ []) : ∀ q, blk a q → q < h.size := fun q hq => by
  cases xs with
  | nil => exact absurd rfl hx
  | cons x xs =>
    obtain ⟨p, hp, hc⟩ := hs.1.get (i := 0) (x := x) rfl
    obtain ⟨p', e, hq'⟩ := hq
    rw [hp] at e
    cases e
    have hj : 0 < (E.enc x).length := by rw [E.len]; exact hz
    have h4 := cell_lt (hc 0 _ (List.getElem?_eq_getElem hj))
    rw [Addr.add_block, hq'] at h4
    exact h4
/-- an element's cells. -/
theorem SlN.row (hs : SlN E N h a n xs) {i : Nat} {x : α} (hx : xs[i]? = some x) : ∃ p, a = some p ∧ ∀ j v, (E.enc x)[j]? = some v → cell h ((p.add (i * E.sz)).add j) = some v := by
  obtain ⟨p, e, hp⟩ := hs.1.get hx
  exact ⟨p, e, fun j v hv => by rw [Addr.add_add]; exact hp j v hv⟩
end

/-- an empty literal. -/
theorem svc_empty_of {α : Type} {E : Enc α} {P : Program} {t e : TypeId} {bytes : Nat} {z : Value} (hA : App P t e E.sz bytes z) {h : Heap} {K : Value → Heap → Prop}
    (k : Vc.Own E e h.size (h.push (.cells #[] e (0, 0))) (some ⟨h.size, 0, none⟩) 0 0 [] → K (.slice (some ⟨h.size, 0, none⟩) 0 0) (h.push (.cells #[] e (0, 0)))) : SVC P (Instr.buildSlice t 0 (Array.mk [])) h K := by
  refine ⟨fun w hw => ?_⟩
  subst hw
  refine ⟨.slice (some ⟨w.heap.size, 0, none⟩) 0 0, w.alloc (.cells #[] e), ?_, Sane.push rfl, k ⟨rfl, Nat.le_refl _, .inr ⟨w.heap.size, _, rfl, Nat.le_refl _, push_at _ _, by simp, [], by simp⟩⟩⟩
  have hz : ∀ w : World, (zeroValue e).run P w = .ok z w := fun w => by
    have hz0 := hA.zero
    cases hi : P.info? e with
    | none => simp [hi] at hz0
    | some i => simp [hi] at hz0; simp [zeroValue, typeInfo, hi, hz0]
  have hu : ∀ w : World, (underlying t).run P w = .ok (.slice e) w := fun w => run_underlying hA.und w
  have hso : ∀ w : World, (sizeOf e).run P w = .ok E.sz w := fun w => run_szOf hA.size w
  have hr : Array.range 0 = #[] := by simp
  simp [Instr.buildSlice, hu, hso, hz, Instr.fill, newRow, hr]

/-- a file as it lies in a row: a name, and a slice of pages, which read as a list. -/
structure Fl where
  n : ByteArray
  a : Option Addr
  len : Nat
  cap : Nat
  pages : List ByteArray
def FlE : Enc Fl := ⟨2, fun f => [.string f.n, .slice f.a f.len f.cap], fun _ => rfl, fun f v h => by
  simp only [List.mem_cons, List.not_mem_nil, or_false] at h
  rcases h with rfl | rfl
  · exact one_string _
  · exact one_slice _ _ _⟩
abbrev Fl.val (f : Fl) : Value := .agg #[.string f.n, .slice f.a f.len f.cap]
def Fl.pl (f : Fl) : ByteArray × List ByteArray := (f.n, f.pages)
structure FlOk (N : Nat → Prop) (h : Heap) (f : Fl) : Prop where
  sl : SlN StrE N h f.a f.len f.pages
  cap : f.len ≤ f.cap
/-- files in a slice. -/
structure FsN (N : Nat → Prop) (h : Heap) (a : Option Addr) (n : Nat) (fs : List Fl) : Prop where
  sl : SlN FlE N h a n fs
  each : ∀ f ∈ fs, FlOk N h f
section
variable {N M : Nat → Prop} {h h' : Heap} {a : Option Addr} {n : Nat} {fs : List Fl} {f : Fl}
theorem FlOk.upd (hf : FlOk N h f) (u : Upd N h h') : FlOk N h' f := ⟨hf.sl.upd u, hf.cap⟩
theorem FlOk.keep (hf : FlOk N h f) (k : Keep h.size h h') : FlOk N h' f := hf.upd (k.upd N)
theorem FsN.upd (hf : FsN N h a n fs) (u : Upd N h h') : FsN N h' a n fs := ⟨hf.sl.upd u, fun f hm => (hf.each f hm).upd u⟩
theorem FsN.keep (hf : FsN N h a n fs) (k : Keep h.size h h') : FsN N h' a n fs := hf.upd (k.upd N)
theorem FsN.nil (N : Nat → Prop) (h : Heap) (a : Option Addr) : FsN N h a 0 [] := ⟨SlN.nil _ _ _, fun _ h => by cases h⟩
theorem FsN.len (hf : FsN N h a n fs) : fs.length = n := hf.sl.len
/-- a file in a row. -/
theorem FsN.row (hf : FsN N h a n fs) {i : Nat} (hx : fs[i]? = some f) : ∃ p, a = some p ∧ (∀ j v, (FlE.enc f)[j]? = some v → cell h ((p.add (i * 2)).add j) = some v) ∧ FlOk N h f := by
  obtain ⟨p, e, hp⟩ := hf.sl.row hx
  exact ⟨p, e, hp, hf.each f (List.mem_of_getElem? hx)⟩
end
end Go.Vc
end

section
set_option linter.unusedSimpArgs false
set_option linter.unusedVariables false
namespace Go.Vc
open Go

section
variable {α : Type} {E : Enc α}
theorem first_sl {P : Program} {w : World} {b : Option Addr} {m c2 : Nat} {ys : List α} (hpos : 0 < E.sz) (hs : Sl E w.heap b m ys) : (Builtin.firstCells E.sz m (.slice b m c2)).run P w = .ok (ys.flatMap E.enc).toArray w := by
  have hysl : (ys.flatMap E.enc).length = m * E.sz := by rw [flat_len, hs.1]
  rcases hs.2 with rfl | ⟨p, rfl, hp⟩
  · have hm : m = 0 := by have := hs.1; simpa using this.symm
    subst hm
    cases b <;> simp [Builtin.firstCells, loadCells, loadCellsFrom]
  · simp only [Builtin.firstCells]
    refine run_loadCells hysl fun j v hv => ?_
    have hj : j < m * E.sz := by rw [← hysl]; exact (List.getElem?_eq_some_iff.1 hv).1
    have hi : j / E.sz < ys.length := by rw [hs.1]; exact Nat.div_lt_of_lt_mul (by rw [Nat.mul_comm]; exact hj)
    have hr : j % E.sz < E.sz := Nat.mod_lt _ hpos
    have hx : ys[j / E.sz]? = some ys[j / E.sz] := List.getElem?_eq_getElem hi
    have hlen := E.len ys[j / E.sz]
    have hvj : (E.enc ys[j / E.sz])[j % E.sz]? = some ((E.enc ys[j / E.sz])[j % E.sz]'(by omega)) := List.getElem?_eq_getElem (by omega)
    have hf := flat_get ys hx hvj
    rw [Nat.mul_comm, Nat.div_add_mod] at hf
    rw [hv] at hf
    have := hp _ _ hx _ _ hvj
    rw [Nat.mul_comm, Nat.div_add_mod] at this
    rw [this, ← hf]
/-- what is appended does not fit: a new block, whatever the slice was. -/
theorem svc_append_grow {P : Program} {T T2 e : TypeId} {bytes : Nat} {z : Value} {B : Nat} {h : Heap} {a : Option Addr} {n c m : Nat} {xs ys : List α} {v2 : Value} {ty : TypeId} {K : Value → Heap → Prop}
    (hA : App P T e E.sz bytes z) {d2 : TypeDesc} (hu2 : P.underlying T2 = some d2) (hd2 : (∃ e2, d2 = .slice e2) ∨ d2 = .string) (hx : Sl E h a n xs) (hB : B ≤ h.size) (hgrow : c < n + m) (hnc : n ≤ c)
    (hlen : ∀ w : World, (Builtin.lenOf v2).run P w = .ok m w) (hys : ys.length = m) (hread : ∀ w : World, w.heap = h → (Builtin.firstCells E.sz m v2).run P w = .ok (ys.flatMap E.enc).toArray w)
    (hroom : (4 * (n + m) + 192) * bytes ≤ 2 ^ 48)
    (k : ∀ c' h', Vc.Own E e B h' (some ⟨h.size, 0, none⟩) (n + m) c' (xs ++ ys) → Keep h.size h h' → h'.size = h.size + 1 → K (.slice (some ⟨h.size, 0, none⟩) (n + m) c') h') :
    SVC P (Builtin.append_ #[T, T2] ty #[.slice a n c, v2]) h K := by
  refine ⟨fun w hw => ?_⟩
  subst hw
  obtain ⟨hu, hsz, hby, hze, hzl, hpos, hbpos⟩ := hA
  have hsizeOf := fun w : World => run_szOf (P := P) hsz w
  have hti : ∀ w : World, ∃ i, P.info? e = some i ∧ (typeInfo e).run P w = .ok i w ∧ i.bytes = bytes ∧ i.zero = some z := fun w => by
    cases hi : P.info? e with
    | none => simp [hi] at hby
    | some i => simp [hi] at hby hze; exact ⟨i, rfl, by simp [typeInfo, hi], hby, hze⟩
  have hzero : ∀ w : World, (zeroValue e).run P w = .ok z w := fun w => by
    obtain ⟨i, h1, h2, h3, h4⟩ := hti w
    simp [zeroValue, h2, h4]
  have hxl := hx.1
  obtain ⟨inf, i1, i2, i3, i4⟩ := hti w
  have hcap := nextslicecap_le (n + m) c (by omega)
  have hle : Builtin.nextslicecap (n + m) c * bytes ≤ 2 ^ 48 := Nat.le_trans (Nat.mul_le_mul_right _ hcap) hroom
  have hold : ∀ w' : World, w'.heap = w.heap → (Builtin.firstCells E.sz n (.slice a n c)).run P w' = .ok (xs.flatMap E.enc).toArray w' := fun w' hw' => first_sl hpos (by rw [hw']; exact hx)
  let q : Question := .appendCap (n + m) c e
  let cap := q.cut (w.tape w.drawn q)
  let wd : World := { w with drawn := w.drawn + 1 }
  have hch : (choose q).run P w = .ok cap wd := rfl
  have hcge : n + m ≤ cap := by show n + m ≤ (n + m) + _; omega
  have hzlen : (Builtin.zeroCells z.cells (cap - (n + m))).size = (cap - (n + m)) * E.sz := by simp [Builtin.zeroCells, hzl]
  have hfit : ¬ n + m ≤ c := by omega
  refine ⟨.slice (some ⟨w.heap.size, 0, none⟩) (n + m) cap, { wd with heap := w.heap.push (.cells ((xs.flatMap E.enc).toArray ++ (ys.flatMap E.enc).toArray ++ Builtin.zeroCells z.cells (cap - (n + m))) e) }, ?_, Sane.push rfl, ?_⟩
  · have hbz : inf.bytes = bytes := i3
    have g1 : ∀ w' : World, (typeInfo e).run P w' = .ok inf w' := fun w' => by
      obtain ⟨i', j1, j2, _, _⟩ := hti w'
      rw [i1] at j1; cases j1; exact j2
    have hle' : ¬ (281474976710656 < Builtin.nextslicecap (n + m) c * inf.bytes) := by rw [hbz]; omega
    have hnb : inf.bytes ≠ 0 := by omega
    have hforced : (Question.appendCap (n + m) c e).forced = false := rfl
    have hold' := hold w.drew rfl
    have hread2 := hread w.drew rfl
    rcases hd2 with ⟨e2, rfl⟩ | rfl
    · simp [Builtin.append_, run_underlying hu, run_underlying hu2, hsizeOf, hlen, hfit, g1, hle', hnb, hforced, hold', hread2, hzero, newRow]
      refine ⟨rfl, ?_⟩
      show ({ w with heap := _, drawn := _ } : World) = _
      congr 2
      simp only [cap, q, ← Array.append_assoc, List.append_toArray]
    · simp [Builtin.append_, run_underlying hu, run_underlying hu2, hsizeOf, hlen, hfit, g1, hle', hnb, hforced, hold', hread2, hzero, newRow]
      refine ⟨rfl, ?_⟩
      show ({ w with heap := _, drawn := _ } : World) = _
      congr 2
      simp only [cap, q, ← Array.append_assoc, List.append_toArray]
  · have hsz' : ((xs.flatMap E.enc).toArray ++ (ys.flatMap E.enc).toArray ++ Builtin.zeroCells z.cells (cap - (n + m))).size = cap * E.sz := by
      simp only [Array.size_append, hzlen, List.size_toArray, flat_len, hxl, hys]
      rw [← Nat.add_mul, ← Nat.add_mul, Nat.add_sub_cancel' hcge]
    refine k _ _ ⟨by simp [hxl, hys], hcge, .inr ⟨w.heap.size, _, rfl, hB, push_at _ _, hsz', (Builtin.zeroCells z.cells (cap - (n + m))).toList, ?_⟩⟩ (Keep.push w.heap.size w.heap _ (Nat.le_refl _)) (by simp)
    simp [List.flatMap_append]
end
theorem len_str {P : Program} (s : ByteArray) (w : World) : (Builtin.lenOf (.string s)).run P w = .ok s.size w := rfl
theorem len_slice {P : Program} (a : Option Addr) (n c : Nat) (w : World) : (Builtin.lenOf (.slice a n c)).run P w = .ok n w := rfl
theorem first_str {P : Program} (s : ByteArray) (w : World) : (Builtin.firstCells ByteE.sz s.size (.string s)).run P w = .ok ((bytesL s).flatMap ByteE.enc).toArray w := by
  have h1 : s.extract 0 s.size = s := by apply ByteArray.ext; simp
  have h2 : (s.data.map fun b => Value.int .u8 b.toNat) = ((bytesL s).flatMap ByteE.enc).toArray := by
    apply Array.toList_inj.1
    rw [Array.toList_map]
    show s.data.toList.map _ = (s.data.toList.flatMap ByteE.enc)
    generalize s.data.toList = l
    induction l with
    | nil => rfl
    | cons a l ih => rw [List.flatMap_cons, ← ih]; rfl
  show Result.ok ((s.extract 0 s.size).data.map fun b => Value.int .u8 b.toNat) w = _
  rw [h1, h2]
/-- a text appended to bytes of the call's own. -/
theorem svc_append_str {P : Program} {T T2 e : TypeId} {z : Value} {B : Nat} {h : Heap} {a : Option Addr} {n c : Nat} {xs : List UInt8} {s : ByteArray} {ty : TypeId} {K : Value → Heap → Prop}
    (hA : App P T e ByteE.sz 1 z) (hu2 : P.underlying T2 = some .string) (ho : Vc.Own ByteE e B h a n c xs) (hB : B ≤ h.size) (hroom : (4 * (n + s.size) + 192) * 1 ≤ 2 ^ 48)
    (k : ∀ a' c' h', Vc.Own ByteE e B h' a' (n + s.size) c' (xs ++ bytesL s) → Upd (blk a) h h' → (∀ i, blk a' i → blk a i ∨ i = h.size) → K (.slice a' (n + s.size) c') h') :
    SVC P (Builtin.append_ #[T, T2] ty #[.slice a n c, .string s]) h K := by
  have hys : (bytesL s).length = s.size := by show s.data.toList.length = s.data.size; rw [Array.length_toList]
  by_cases hfit : n + s.size ≤ c
  · refine ⟨fun w hw => ?_⟩
    subst hw
    have hsizeOf := fun w : World => run_szOf (P := P) hA.size w
    have hread := first_str (P := P) s w
    have hone : ∀ v ∈ (bytesL s).flatMap ByteE.enc, (∀ c, v ≠ .agg c) ∧ (∀ c, v ≠ .tuple c) := fun v hv => by
      obtain ⟨x, _, hx⟩ := List.mem_flatMap.1 hv
      exact ByteE.one x v hx
    have hysl : ((bytesL s).flatMap ByteE.enc).length = s.size := by rw [flat_len, hys]; exact Nat.mul_one _
    have hl := ho.1
    rcases ho.2.2 with ⟨rfl, rfl⟩ | ⟨bb, cells, rfl, hBb, hbb, hcs, rest, hrest⟩
    · have hm : s.size = 0 := by omega
      have hn : n = 0 := by omega
      subst hn
      have hxs : xs = [] := List.eq_nil_of_length_eq_zero hl
      have hys0 : bytesL s = [] := List.eq_nil_of_length_eq_zero (by omega)
      refine ⟨.slice none (0 + s.size) 0, w, ?_, Sane.refl w, k _ _ _ ?_ (Upd.refl _ _) (fun i hi => .inl hi)⟩
      · have hr0 := hread
        rw [hm] at hr0
        simp [Builtin.append_, run_underlying hA.und, run_underlying hu2, hsizeOf, len_str, hm]
        rw [hr0]; rfl
      · rw [hxs, hys0, hm]; exact ⟨rfl, Nat.le_refl _, .inl ⟨rfl, rfl⟩⟩
    · have hxl : (xs.flatMap ByteE.enc).length = n := by rw [flat_len, hl]; exact Nat.mul_one _
      have hcl : cells.toList.length = cells.size := by simp
      have hcs' : cells.size = c := by rw [hcs]; exact Nat.mul_one _
      have hrl : rest.length = cells.size - n := by
        have := congrArg List.length hrest
        rw [hcl, List.length_append, hxl] at this; omega
      obtain ⟨w', cells', h1, h2, h3, h4, h5, h6, h7⟩ := run_storeCells (P := P) bb e ((bytesL s).flatMap ByteE.enc) n cells w 0 hbb (by rw [hysl]; omega) hone
      refine ⟨_, w', ?_, h2, k _ _ _ ⟨by simp [hl, hys], hfit, .inr ⟨bb, cells', rfl, hBb, h4, by rw [h5]; exact hcs, rest.drop ((bytesL s).flatMap ByteE.enc).length, ?_⟩⟩
        ⟨by rw [h3]; exact Nat.le_refl _, fun i hi hs => h7 i fun e => hs ⟨_, rfl, e.symm⟩⟩ (fun i hi => .inl hi)⟩
      · have e1 : ByteE.sz = 1 := rfl
        have hr1 := hread
        rw [e1] at hr1
        simp [Builtin.append_, run_underlying hA.und, run_underlying hu2, hsizeOf, len_str, hfit, e1, Addr.add_row]
        rw [hr1]
        simp [h1]
      · rw [h6, hrest, Nat.add_zero, ← hxl, putL_prefix _ _ _ (by rw [hysl, hrl]; omega), List.flatMap_append]
  · refine svc_append_grow hA hu2 (.inr rfl) ho.sl hB (by omega) ho.2.1 (len_str s) hys (fun w _ => first_str s w) hroom fun c' h' o kk ss => k _ c' h' o (kk.upd _) fun i ⟨p, e, hp⟩ => .inr (by cases e; exact hp.symm)
end Go.Vc
end

section
set_option linter.unusedSimpArgs false
set_option linter.unusedVariables false
namespace Go.Vc
open Go

/-- only blocks of S have turned, or the machine's own; others may have come. -/
structure UpdM (S : Nat → Prop) (h h' : Heap) : Prop where
  size : h.size ≤ h'.size
  stay : ∀ (q : Nat) (o : Obj), h[q]? = some o → isMark o = false → ¬ S q → h'[q]? = some o
section
variable {S T : Nat → Prop} {h h' a b c : Heap}
theorem Upd.m (u : Upd S h h') : UpdM S h h' := ⟨u.size, fun q o hq _ hs => u.at hq hs⟩
theorem Keep.m (k : Keep h.size h h') : UpdM S h h' := (k.upd S).m
theorem Turn.m (t : Turn h h') : UpdM S h h' := ⟨t.size, fun q o hq hm _ => t.stay q o hq hm⟩
theorem UpdM.turn (u : UpdM S h h') (hS : ∀ q, q < h.size → ¬ S q) : Turn h h' := ⟨u.size, fun q o hq hm => u.stay q o hq hm (hS q (at_lt hq))⟩
theorem UpdM.refl (S : Nat → Prop) (h : Heap) : UpdM S h h := ⟨Nat.le_refl _, fun _ _ hq _ _ => hq⟩
theorem UpdM.trans (u : UpdM S a b) (v : UpdM S b c) : UpdM S a c := ⟨Nat.le_trans u.size v.size, fun q o hq hm hs => v.stay q o (u.stay q o hq hm hs) hm hs⟩
theorem UpdM.of_sub (u : UpdM S h h') (hs : ∀ q, q < h.size → S q → T q) : UpdM T h h' := ⟨u.size, fun q o hq hm ht => u.stay q o hq hm fun s => ht (hs q (at_lt hq) s)⟩
theorem UpdM.mono (u : UpdM S h h') (hs : ∀ q, S q → T q) : UpdM T h h' := u.of_sub fun q _ => hs q
theorem UpdM.trans' (u : UpdM S a b) (v : UpdM T b c) (hs : ∀ q, q < a.size → T q → S q) : UpdM S a c := ⟨Nat.le_trans u.size v.size, fun q o hq hm ht => v.stay q o (u.stay q o hq hm ht) hm fun t => ht (hs q (at_lt hq) t)⟩
theorem UpdM.cells (u : UpdM S h h') {q : Nat} {cs : Array Value} {t : TypeId} {f : Nat × Nat} (hq : h[q]? = some (.cells cs t f)) (hs : ¬ S q) : h'[q]? = some (.cells cs t f) := u.stay q _ hq rfl hs
theorem UpdM.cell (u : UpdM S h h') {p : Addr} {v : Value} (hc : Vc.cell h p = some v) (hs : ¬ S p.block) : Vc.cell h' p = some v := by
  have hc0 := hc
  unfold Vc.cell at hc
  cases hb : h[p.block]? with
  | none => rw [hb] at hc; cases hc
  | some o =>
    rw [hb] at hc
    cases o with
    | cells cs t f =>
      have := u.cells hb hs
      unfold Vc.cell
      rw [this]; exact hc
    | _ => cases hc
theorem Sl.updM {α : Type} {E : Enc α} {x : Option Addr} {n : Nat} {xs : List α} (hs : Sl E h x n xs) (u : UpdM S h h') (hS : n ≠ 0 → ∀ b, blk x b → ¬ S b) : Sl E h' x n xs :=
  ⟨hs.1, by
    by_cases hn : n = 0
    · exact .inl (List.eq_nil_of_length_eq_zero (by rw [hs.1]; exact hn))
    · exact hs.2.imp id fun ⟨p, e, hp⟩ => ⟨p, e, fun i x hx j v hv => u.cell (hp i x hx j v hv) (by rw [Addr.add_block]; exact hS hn _ ⟨p, e, rfl⟩)⟩⟩
theorem Own.updM {α : Type} {E : Enc α} {t : TypeId} {B : Nat} {x : Option Addr} {n c : Nat} {xs : List α} (ho : Vc.Own E t B h x n c xs) (u : UpdM S h h') (hs : ∀ b, blk x b → ¬ S b) : Vc.Own E t B h' x n c xs := by
  obtain ⟨hl, hc, hr⟩ := ho
  refine ⟨hl, hc, hr.imp id ?_⟩
  rintro ⟨b, cells, rfl, hB, hb, rest⟩
  exact ⟨b, cells, rfl, hB, u.cells hb (hs b ⟨_, rfl, rfl⟩), rest⟩
theorem MapAt.updM {κ ν : Type} [DecidableEq κ] {P : Program} {t kt et : TypeId} {M : Mk P t kt et κ ν} {r : Nat} {m : List (κ × ν)} (hm : MapAt M h r m) (u : UpdM S h h') (hs : ¬ S r) : MapAt M h' r m := by
  obtain ⟨es, clock, hb, rest⟩ := hm; exact ⟨es, clock, u.stay _ _ hb rfl hs, rest⟩
end
end Go.Vc
end

section
set_option linter.unusedSimpArgs false
set_option linter.unusedVariables false
namespace Go.Vc
open Go

/-- a method with a value's receiver, of a type's own. -/
def methB (P : Program) (t : TypeId) (name : String) (f : Nat) : Bool :=
  (match P.info? t with
    | some i => match i.methods.find? (·.name == name) with
      | some m => m.path.isEmpty && (match m.func with | some (g, false) => Nat.beq g f | _ => false)
      | none => false
    | none => false) && (match P.underlying t with | some (.pointer _) => false | some _ => true | none => false) && fnOk P f
theorem meth_val {P : Program} {t : TypeId} {v : Value} {name : String} {f : Nat} (h : methB P t name f = true) : Meth P (.iface t v) name f v := by
  unfold methB at h
  simp only [Bool.and_eq_true] at h
  obtain ⟨⟨h1, h2⟩, h3⟩ := h
  cases hi : P.info? t with
  | none => simp [hi] at h1
  | some i =>
    simp only [hi] at h1
    cases hm : i.methods.find? (·.name == name) with
    | none => simp [hm] at h1
    | some m =>
      simp only [hm, Bool.and_eq_true] at h1
      obtain ⟨hp, hf⟩ := h1
      have hp : m.path = #[] := by simpa using hp
      have hf : m.func = some (f, false) := by
        cases hfu : m.func with
        | none => simp [hfu] at hf
        | some q =>
          obtain ⟨g, b⟩ := q
          cases b with
          | true => simp [hfu] at hf
          | false => simp only [hfu] at hf; rw [Nat.eq_of_beq_eq_true hf]
      unfold fnOk at h3
      cases hfn : P.funcs[f]? with
      | none => simp [hfn] at h3
      | some fn =>
        simp only [hfn, Bool.and_eq_true, Bool.not_eq_true', beq_eq_false_iff_ne] at h3
        obtain ⟨h4, h5⟩ := h3
        cases hb : fn.body with
        | none => rw [hb] at h5; simp at h5
        | some body =>
          refine ⟨fun w args => ?_⟩
          have hfuel : ∃ n, P.types.size + Made.depth = n + 1 := by
            refine ⟨P.types.size + Made.depth - 1, ?_⟩
            have : 0 < P.types.size + Made.depth := Nat.lt_of_lt_of_le (by decide : 0 < Made.depth) (Nat.le_add_left _ _)
            omega
          obtain ⟨n, hn⟩ := hfuel
          have hu : ∃ d, P.underlying t = some d ∧ ∀ e, d ≠ .pointer e := by
            cases hd : P.underlying t with
            | none => simp [hd] at h2
            | some d => exact ⟨d, rfl, fun e he => by subst he; simp [hd] at h2⟩
          obtain ⟨d, hd, hne⟩ := hu
          have hr : ∀ x, (receiverAt t (.val v) false x).run P w = .ok v w := fun x => by
            have hru := run_underlying hd w
            unfold receiverAt
            cases d <;> simp [hru, Place.get] at hne ⊢
          have hmth : (method (n + 1) t v name).run P w = .ok (f, v) w := by
            unfold method
            simp [typeInfo, hi, hm, hp, follow, hf, hr]
          unfold callMethod
          simp [hn, hmth, callFunc, hfn, h4, hb]
end Go.Vc
end

section
set_option linter.unusedSimpArgs false
set_option linter.unusedVariables false
namespace Go.Dk
open Go Go.Vc

abbrev Str := ByteArray
/- strings are ordered -/
theorem bl_irrefl : ∀ l : List UInt8, Op.bytesLess l l = false
  | [] => rfl
  | a :: l => by simp [Op.bytesLess, bl_irrefl l]
theorem bl_trans : ∀ x y z : List UInt8, Op.bytesLess x y = true → Op.bytesLess y z = true → Op.bytesLess x z = true
  | _, [], _, h, _ => by simp [Op.bytesLess] at h
  | _, _ :: _, [], _, h => by simp [Op.bytesLess] at h
  | [], _ :: _, _ :: _, _, _ => rfl
  | a :: x, b :: y, c :: z, h1, h2 => by
    simp only [Op.bytesLess, Bool.or_eq_true, Bool.and_eq_true, decide_eq_true_eq, beq_iff_eq] at *
    rcases h1 with h1 | ⟨rfl, h1⟩
    · rcases h2 with h2 | ⟨rfl, h2⟩
      · exact .inl (UInt8.lt_trans h1 h2)
      · exact .inl h1
    · rcases h2 with h2 | ⟨rfl, h2⟩
      · exact .inl h2
      · exact .inr ⟨rfl, bl_trans x y z h1 h2⟩
theorem bl_total : ∀ x y : List UInt8, Op.bytesLess x y = false → Op.bytesLess y x = false → x = y
  | [], [], _, _ => rfl
  | [], _ :: _, h, _ => by simp [Op.bytesLess] at h
  | _ :: _, [], _, h => by simp [Op.bytesLess] at h
  | a :: x, b :: y, h1, h2 => by
    simp only [Op.bytesLess, Bool.or_eq_false_iff, Bool.and_eq_false_iff, decide_eq_false_iff_not, beq_eq_false_iff_ne] at *
    have e : a = b := UInt8.le_antisymm (UInt8.not_lt.1 h2.1) (UInt8.not_lt.1 h1.1)
    subst e
    rw [bl_total x y (h1.2.resolve_left (by simp)) (h2.2.resolve_left (by simp))]
abbrev lt (a b : Str) : Bool := Op.bytesLess a.toList b.toList
theorem str_ext {a b : Str} (h : a.toList = b.toList) : a = b := by
  rw [ByteArray.toList_eq, ByteArray.toList_eq] at h
  cases a with | mk x => cases b with | mk y => congr 1; exact Array.toList_inj.1 h
theorem lt_irrefl (a : Str) : lt a a = false := bl_irrefl _
theorem lt_trans {a b c : Str} (h : lt a b = true) (k : lt b c = true) : lt a c = true := bl_trans _ _ _ h k
theorem lt_total {a b : Str} (h : lt a b = false) (k : lt b a = false) : a = b := str_ext (bl_total _ _ h k)
theorem lt_asymm {a b : Str} (h : lt a b = true) : lt b a = false := by
  cases k : lt b a with
  | false => rfl
  | true => have := lt_trans h k; rw [lt_irrefl] at this; cases this
theorem eq_beq {a b : Str} : (a.toList == b.toList) = true ↔ a = b := ⟨fun h => str_ext (by simpa using h), fun h => by subst h; simp⟩
theorem beq_dec' (a b : Str) : (a.toList == b.toList) = decide (a = b) := by
  by_cases h : a = b
  · subst h; simp
  · rw [decide_eq_false h]; cases k : a.toList == b.toList with | false => rfl | true => exact absurd (eq_beq.1 k) h
theorem ne_of_lt {a b : Str} (h : lt a b = true) : a ≠ b := fun e => by subst e; rw [lt_irrefl] at h; cases h
abbrev Srt (l : List Str) : Prop := l.Pairwise fun a b => lt a b = true
theorem srt_nodup {l : List Str} (h : Srt l) : l.Nodup := h.imp fun h => ne_of_lt h
theorem srt_ext : ∀ {l m : List Str}, Srt l → Srt m → (∀ k, k ∈ l ↔ k ∈ m) → l = m
  | [], [], _, _, _ => rfl
  | [], b :: m, _, _, h => by have := (h b).2 List.mem_cons_self; cases this
  | a :: l, [], _, _, h => by have := (h a).1 List.mem_cons_self; cases this
  | a :: l, b :: m, hl, hm, h => by
    have pl := List.pairwise_cons.1 hl
    have pm := List.pairwise_cons.1 hm
    have e : a = b := by
      rcases List.mem_cons.1 ((h a).1 List.mem_cons_self) with e | h1
      · exact e
      rcases List.mem_cons.1 ((h b).2 List.mem_cons_self) with e | h2
      · exact e.symm
      · have := lt_trans (pl.1 _ h2) (pm.1 _ h1); rw [lt_irrefl] at this; cases this
    subst e
    rw [srt_ext pl.2 pm.2 fun k => ?_]
    constructor
    · intro hk
      rcases List.mem_cons.1 ((h k).1 (List.mem_cons_of_mem _ hk)) with e | h1
      · subst e; have := pl.1 _ hk; rw [lt_irrefl] at this; cases this
      · exact h1
    · intro hk
      rcases List.mem_cons.1 ((h k).2 (List.mem_cons_of_mem _ hk)) with e | h1
      · subst e; have := pm.1 _ hk; rw [lt_irrefl] at this; cases this
      · exact h1

/- ------------------------------------------------------------------ files -/

abbrev Fs := List (Str × List Str)
abbrev names (F : Fs) : List Str := mKeys F
def SrtF (F : Fs) : Prop := Srt (names F)

/-- one file is this, in its place by rising names. -/
def put (n : Str) (l : List Str) : Fs → Fs
  | [] => [(n, l)]
  | p :: F => if p.1 = n then (n, l) :: F else if lt n p.1 then (n, l) :: p :: F else p :: put n l F
def del (n : Str) (F : Fs) : Fs := F.filter fun p => decide (p.1 ≠ n)
def tot (F : Fs) : Nat := (F.map fun p => p.2.length).sum
def pgs (F : Fs) (n : Str) : List Str := (mGet F n).getD []

theorem names_put (n : Str) (l : List Str) : ∀ (F : Fs) (q : Str), q ∈ names (put n l F) ↔ q = n ∨ q ∈ names F
  | [], q => by simp [put, mKeys]
  | p :: F, q => by
    unfold put
    by_cases h : p.1 = n
    · subst h; simp [mKeys]
    · rw [if_neg h]
      by_cases h2 : lt n p.1 = true
      · rw [if_pos h2]; simp [mKeys]
      · rw [if_neg h2]
        have ih := names_put n l F q
        simp only [mKeys, List.map_cons, List.mem_cons] at ih ⊢
        rw [ih]
        exact ⟨fun h => h.elim (fun h => .inr (.inl h)) (fun h => h.elim .inl (fun h => .inr (.inr h))), fun h => h.elim (fun h => .inr (.inl h)) (fun h => h.elim .inl (fun h => .inr (.inr h)))⟩
theorem srt_put {F : Fs} (h : SrtF F) (n : Str) (l : List Str) : SrtF (put n l F) := by
  induction F with
  | nil => simp [put, SrtF, mKeys]
  | cons p F ih =>
    have hp := List.pairwise_cons.1 h
    unfold put
    by_cases h1 : p.1 = n
    · subst h1; rw [if_pos rfl]; exact h
    · rw [if_neg h1]
      by_cases h2 : lt n p.1 = true
      · rw [if_pos h2]
        refine List.pairwise_cons.2 ⟨fun k hk => ?_, h⟩
        rcases List.mem_cons.1 hk with rfl | hk
        · exact h2
        · exact lt_trans h2 (hp.1 k hk)
      · rw [if_neg h2]
        refine List.pairwise_cons.2 ⟨fun k hk => ?_, ih hp.2⟩
        rcases (names_put n l F k).1 hk with rfl | hk
        · cases h3 : lt p.1 k with
          | true => rfl
          | false => exact absurd (lt_total h3 (by simpa using h2)) h1
        · exact hp.1 k hk
theorem get_none_of_lt {F : Fs} {n : Str} (h : ∀ q ∈ names F, lt n q = true) : mGet F n = none :=
  mGet_none.2 fun hm => by have := h n hm; rw [lt_irrefl] at this; cases this
theorem get_put {F : Fs} (h : SrtF F) (n : Str) (l : List Str) (q : Str) : mGet (put n l F) q = if q = n then some l else mGet F q := by
  induction F with
  | nil => by_cases e : q = n <;> simp [put, mGet, e]; exact fun h => e h.symm
  | cons p F ih =>
    have hp := List.pairwise_cons.1 h
    unfold put
    by_cases h1 : p.1 = n
    · subst h1; rw [if_pos rfl]; by_cases e : q = p.1
      · subst e; simp [mGet]
      · simp [mGet, e, Ne.symm e]
    · rw [if_neg h1]
      by_cases h2 : lt n p.1 = true
      · rw [if_pos h2]
        by_cases e : q = n
        · subst e; simp [mGet]
        · simp [mGet, e, Ne.symm e]
      · rw [if_neg h2]
        by_cases e : p.1 = q
        · subst e; simp [mGet, h1]
        · rw [mGet, if_neg e, ih hp.2, mGet, if_neg e]
theorem srt_del {F : Fs} (h : SrtF F) (n : Str) : SrtF (del n F) := List.Pairwise.sublist (List.filter_sublist.map _) h
theorem get_del {F : Fs} (n q : Str) : mGet (del n F) q = if q = n then none else mGet F q := by
  induction F with
  | nil => simp [del, mGet]
  | cons p F ih =>
    simp only [del, List.filter_cons] at ih ⊢
    by_cases h : p.1 = n
    · simp only [h, ne_eq, not_true_eq_false, decide_false, Bool.false_eq_true, if_false, ih]
      by_cases e : q = n
      · simp [e]
      · simp [e, mGet, h, Ne.symm e]
    · simp only [h, ne_eq, not_false_eq_true, decide_true, if_true, mGet, ih]
      by_cases e : p.1 = q
      · subst e; simp [h]
      · simp [e]

/-- two lists by rising names that answer the same are the same. -/
theorem fs_ext : ∀ {F G : Fs}, SrtF F → SrtF G → (∀ q, mGet F q = mGet G q) → F = G
  | [], [], _, _, _ => rfl
  | [], b :: G, _, _, h => by have := h b.1; simp [mGet] at this
  | a :: F, [], _, _, h => by have := h a.1; simp [mGet] at this
  | a :: F, b :: G, hF, hG, h => by
    have pF := List.pairwise_cons.1 hF
    have pG := List.pairwise_cons.1 hG
    have e : names (a :: F) = names (b :: G) := srt_ext hF hG fun k => by
      rw [← Classical.not_not (a := k ∈ names (a :: F)), ← Classical.not_not (a := k ∈ names (b :: G)), ← mGet_none, ← mGet_none, h k]
    have e1 : a.1 = b.1 := by simp [mKeys] at e; exact e.1
    have e2 : a.2 = b.2 := by have := h a.1; simp [mGet, e1] at this; exact this
    have : a = b := Prod.ext e1 e2
    subst this
    rw [fs_ext pF.2 pG.2 fun q => ?_]
    by_cases hq : a.1 = q
    · subst hq
      rw [get_none_of_lt (F := F) (fun q hq => pF.1 q hq), get_none_of_lt (F := G) (fun q hq => pG.1 q hq)]
    · have := h q; simpa [mGet, hq] using this

theorem tot_put {F : Fs} (h : SrtF F) (n : Str) (l : List Str) : tot (put n l F) + (pgs F n).length = tot F + l.length := by
  induction F with
  | nil => simp [put, tot, pgs, mGet]
  | cons p F ih =>
    have hp := List.pairwise_cons.1 h
    unfold put
    by_cases h1 : p.1 = n
    · subst h1; rw [if_pos rfl]; simp [tot, pgs, mGet]; omega
    · rw [if_neg h1]
      by_cases h2 : lt n p.1 = true
      · rw [if_pos h2]
        have : mGet F n = none := get_none_of_lt fun q hq => lt_trans h2 (hp.1 q hq)
        simp [tot, pgs, mGet, h1, this]; omega
      · rw [if_neg h2]
        have := ih hp.2
        simp only [tot, pgs, mGet, if_neg h1, List.map_cons, List.sum_cons] at this ⊢
        omega
theorem tot_del {F : Fs} (h : SrtF F) (n : Str) : tot (del n F) + (pgs F n).length = tot F := by
  induction F with
  | nil => simp [del, tot, pgs, mGet]
  | cons p F ih =>
    have hp := List.pairwise_cons.1 h
    have := ih hp.2
    by_cases h1 : p.1 = n
    · have hg : mGet F n = none := get_none_of_lt fun q hq => h1 ▸ hp.1 q hq
      simp [tot, pgs, hg, del] at this
      simp [tot, pgs, mGet, h1, del]
      omega
    · have e : mGet (p :: F) n = mGet F n := by rw [mGet, if_neg h1]
      simp only [tot, pgs, e, del, List.filter_cons, ne_eq, h1, not_false_eq_true, decide_true, if_true, List.map_cons, List.sum_cons] at this ⊢
      omega

/- ------------------------------------------------------------------ the disk -/

def zp : Str := ⟨Array.replicate 512 0⟩
/-- a page's bytes, filled up by noughts. -/
def pad (b : Str) : Str := ⟨b.data ++ Array.replicate (512 - b.size) 0⟩
/-- a file with a page, and noughts ahead of it. -/
def setP (l : List Str) (i : Nat) (p : Str) : List Str := (l ++ List.replicate (i + 1 - l.length) zp).set i p

structure Wt where
  n : Str
  i : Nat
  p : Str

structure D where
  now : Fs
  safe : Fs
  waits : List Wt
  room : Nat
  down : Bool
  acts : Int
  fuse : Nat
  keep : Int

def free (d : D) : Int := d.room - tot d.now
/-- is the i-th write kept? -/
def kept (keep : Int) (i : Nat) : Bool := (keep.toNat >>> (i % 64)) % 2 == 1
def app1 (F : Fs) (w : Wt) : Fs := put w.n (setP (pgs F w.n) w.i w.p) F
def keepW (keep : Int) : Nat → List Wt → Fs → Fs
  | _, [], F => F
  | i, w :: ws, F => keepW keep (i + 1) ws (if kept keep i then app1 F w else F)
def addN (F : Fs) (n : Str) : Fs := match mGet F n with | some _ => F | none => put n [] F
def offS (keep : Int) (d : D) : Fs := (names d.now).foldl addN (keepW keep 0 d.waits d.safe)
def off (keep : Int) (d : D) : D := if d.down then d else { d with now := offS keep d, safe := offS keep d, waits := [], down := true, fuse := 0 }
def act (d : D) : D := { d with acts := IntKind.i64.wrap (d.acts + 1), fuse := d.fuse - 1 }
def goes (d : D) : Bool := d.fuse == 1
/-- an act: the power may go in it. -/
def ended (d : D) : Int × D := if goes d then (8, off (act d).keep (act d)) else (0, act d)
def write (d : D) (n : Str) (i : Int) (b : Str) : Int × D :=
  if d.down then (8, d) else if 512 < b.size then (3, d) else if i < 0 ∨ (pgs d.now n).length < i then (1, d) else
  if i = (pgs d.now n).length ∧ free d < 1 then (7, d) else
  let d1 : D := { act d with now := put n (setP (pgs d.now n) i.toNat (pad b)) d.now, waits := d.waits ++ [⟨n, i.toNat, pad b⟩] }
  if goes d then (8, off d1.keep d1) else (0, d1)
def has (d : D) (n : Str) : Bool := !d.down && (mGet d.now n).isSome
def may (d : D) (n : Str) : Int × D :=
  if d.down then (8, d) else match mGet d.now n with | none => (5, d) | some _ => ended d
def drop (ws : List Wt) (n : Str) (k : Int) : List Wt := ws.filter fun w => !(decide (w.n = n) && decide (k ≤ (w.i : Int)))
def sync (d : D) (n : Str) : Int × D := match may d n with
  | (e, d1) => if e = 0 then (0, { d1 with safe := put n (pgs d1.now n) d1.safe, waits := drop d1.waits n 0 }) else (e, d1)
def moved (a b : Str) (F : Fs) : Fs := put b (pgs F a) (del a F)
def turnW (a b : Str) (w : Wt) : Wt := if w.n = a then { w with n := b } else w
def rename (d : D) (a b : Str) : Int × D := match may d a with
  | (e, d1) => if e = 0 ∧ a ≠ b then (0, { d1 with now := moved a b d1.now, safe := moved a b d1.safe, waits := (drop d1.waits b 0).map (turnW a b) }) else (e, d1)
def remove (d : D) (n : Str) : Int × D := match may d n with
  | (e, d1) => if e = 0 then (0, { d1 with now := del n d1.now, safe := del n d1.safe, waits := drop d1.waits n 0 }) else (e, d1)
def namesD (d : D) : List Str := if d.down then [] else names d.now
def count (d : D) (n : Str) : Nat := if d.down then 0 else (pgs d.now n).length
def read (d : D) (n : Str) (i : Int) : Str × Int :=
  if d.down then (⟨#[]⟩, 8) else if i < 0 ∨ ((pgs d.now n).length : Int) ≤ i then (⟨#[]⟩, 5) else ((pgs d.now n).getD i.toNat zp, 0)
def arm (d : D) (n keep : Int) : D := { d with fuse := n.toNat, keep := keep }
def on (d : D) : D := { d with down := false }
def new (room : Int) : D := { now := [], safe := [], waits := [], room := (min (max room 0) 4096).toNat, down := false, acts := 0, fuse := 0, keep := 0 }

/-- what always holds of a disk. -/
structure Ok (d : D) : Prop where
  now : SrtF d.now
  safe : SrtF d.safe
  room : d.room ≤ 4096
  tot : tot d.now ≤ d.room
  fewer : ∀ n, (pgs d.safe n).length ≤ (pgs d.now n).length
  waits : ∀ w ∈ d.waits, w.i < (pgs d.now w.n).length ∧ w.p.size = 512
  pnow : ∀ n, ∀ p ∈ pgs d.now n, p.size = 512
  psafe : ∀ n, ∀ p ∈ pgs d.safe n, p.size = 512
  fuse : d.fuse ≤ 9223372036854775807
  keep : 0 ≤ d.keep ∧ d.keep < 18446744073709551616
end Go.Dk
end

section
set_option linter.unusedSimpArgs false
set_option linter.unusedVariables false
namespace Go.Kv
open Go Go.Vc Go.Dk
abbrev Ps (ν : Type) := List (Str × ν)
section
variable {ν : Type}
def SrtP (F : Ps ν) : Prop := Srt (mKeys F)
/-- one pair is this, in its place by rising keys. -/
def sput (n : Str) (l : ν) : Ps ν → Ps ν
  | [] => [(n, l)]
  | p :: F => if p.1 = n then (n, l) :: F else if lt n p.1 then (n, l) :: p :: F else p :: sput n l F
def sdel (n : Str) (F : Ps ν) : Ps ν := F.filter fun p => decide (p.1 ≠ n)
theorem keys_put (n : Str) (l : ν) : ∀ (F : Ps ν) (q : Str), q ∈ mKeys (sput n l F) ↔ q = n ∨ q ∈ mKeys F
  | [], q => by simp [sput, mKeys]
  | p :: F, q => by
    unfold sput
    by_cases h : p.1 = n
    · subst h; simp [mKeys]
    · rw [if_neg h]
      by_cases h2 : lt n p.1 = true
      · rw [if_pos h2]; simp [mKeys]
      · rw [if_neg h2]
        have ih := keys_put n l F q
        simp only [mKeys, List.map_cons, List.mem_cons] at ih ⊢
        rw [ih]
        exact ⟨fun h => h.elim (fun h => .inr (.inl h)) (fun h => h.elim .inl (fun h => .inr (.inr h))), fun h => h.elim (fun h => .inr (.inl h)) (fun h => h.elim .inl (fun h => .inr (.inr h)))⟩
theorem srtp_put {F : Ps ν} (h : SrtP F) (n : Str) (l : ν) : SrtP (sput n l F) := by
  induction F with
  | nil => simp [sput, SrtP, mKeys]
  | cons p F ih =>
    have hp := List.pairwise_cons.1 h
    unfold sput
    by_cases h1 : p.1 = n
    · subst h1; rw [if_pos rfl]; exact h
    · rw [if_neg h1]
      by_cases h2 : lt n p.1 = true
      · rw [if_pos h2]
        refine List.pairwise_cons.2 ⟨fun k hk => ?_, h⟩
        rcases List.mem_cons.1 hk with rfl | hk
        · exact h2
        · exact lt_trans h2 (hp.1 k hk)
      · rw [if_neg h2]
        refine List.pairwise_cons.2 ⟨fun k hk => ?_, ih hp.2⟩
        rcases (keys_put n l F k).1 hk with rfl | hk
        · cases h3 : lt p.1 k with
          | true => rfl
          | false => exact absurd (lt_total h3 (by simpa using h2)) h1
        · exact hp.1 k hk
theorem getp_none {F : Ps ν} {n : Str} (h : ∀ q ∈ mKeys F, lt n q = true) : mGet F n = none :=
  mGet_none.2 fun hm => by have := h n hm; rw [lt_irrefl] at this; cases this
theorem getp_put {F : Ps ν} (h : SrtP F) (n : Str) (l : ν) (q : Str) : mGet (sput n l F) q = if q = n then some l else mGet F q := by
  induction F with
  | nil => by_cases e : q = n <;> simp [sput, mGet, e]; exact fun h => e h.symm
  | cons p F ih =>
    have hp := List.pairwise_cons.1 h
    unfold sput
    by_cases h1 : p.1 = n
    · subst h1; rw [if_pos rfl]; by_cases e : q = p.1
      · subst e; simp [mGet]
      · simp [mGet, e, Ne.symm e]
    · rw [if_neg h1]
      by_cases h2 : lt n p.1 = true
      · rw [if_pos h2]
        by_cases e : q = n
        · subst e; simp [mGet]
        · simp [mGet, e, Ne.symm e]
      · rw [if_neg h2]
        by_cases e : p.1 = q
        · subst e; simp [mGet, h1]
        · rw [mGet, if_neg e, ih hp.2, mGet, if_neg e]
theorem srtp_del {F : Ps ν} (h : SrtP F) (n : Str) : SrtP (sdel n F) := List.Pairwise.sublist (List.filter_sublist.map _) h
theorem getp_del {F : Ps ν} (n q : Str) : mGet (sdel n F) q = if q = n then none else mGet F q := by
  induction F with
  | nil => simp [sdel, mGet]
  | cons p F ih =>
    simp only [sdel, List.filter_cons] at ih ⊢
    by_cases h : p.1 = n
    · simp only [h, ne_eq, not_true_eq_false, decide_false, Bool.false_eq_true, if_false, ih]
      by_cases e : q = n
      · simp [e]
      · simp [e, mGet, h, Ne.symm e]
    · simp only [h, ne_eq, not_false_eq_true, decide_true, if_true, mGet, ih]
      by_cases e : p.1 = q
      · subst e; simp [h]
      · simp [e]

/-- two lists by rising mKeys that answer the same are the same. -/
theorem ps_ext : ∀ {F G : Ps ν}, SrtP F → SrtP G → (∀ q, mGet F q = mGet G q) → F = G
  | [], [], _, _, _ => rfl
  | [], b :: G, _, _, h => by have := h b.1; simp [mGet] at this
  | a :: F, [], _, _, h => by have := h a.1; simp [mGet] at this
  | a :: F, b :: G, hF, hG, h => by
    have pF := List.pairwise_cons.1 hF
    have pG := List.pairwise_cons.1 hG
    have e : mKeys (a :: F) = mKeys (b :: G) := srt_ext hF hG fun k => by
      rw [← Classical.not_not (a := k ∈ mKeys (a :: F)), ← Classical.not_not (a := k ∈ mKeys (b :: G)), ← mGet_none, ← mGet_none, h k]
    have e1 : a.1 = b.1 := by simp [mKeys] at e; exact e.1
    have e2 : a.2 = b.2 := by have := h a.1; simp [mGet, e1] at this; exact this
    have : a = b := Prod.ext e1 e2
    subst this
    rw [ps_ext pF.2 pG.2 fun q => ?_]
    by_cases hq : a.1 = q
    · subst hq
      rw [getp_none (F := F) (fun q hq => pF.1 q hq), getp_none (F := G) (fun q hq => pG.1 q hq)]
    · have := h q; simpa [mGet, hq] using this

end
/-- a write. -/
structure Wr where
  key : Str
  val : Str
  gone : Bool
  deriving DecidableEq
instance : Inhabited Wr := ⟨⟨⟨#[]⟩, ⟨#[]⟩, false⟩⟩
def done1 (P : Ps Str) (w : Wr) : Ps Str := if w.gone then sdel w.key P else sput w.key w.val P
def doneAll (P : Ps Str) (l : List Wr) : Ps Str := l.foldl done1 P
theorem srt_done1 {P : Ps Str} (h : SrtP P) (w : Wr) : SrtP (done1 P w) := by
  unfold done1; split
  · exact srtp_del h _
  · exact srtp_put h _ _
theorem srt_doneAll : ∀ (l : List Wr) {P : Ps Str}, SrtP P → SrtP (doneAll P l)
  | [], P, h => h
  | w :: l, P, h => srt_doneAll l (srt_done1 h w)
theorem get_done1 {P : Ps Str} (h : SrtP P) (w : Wr) (q : Str) : mGet (done1 P w) q = if q = w.key then (if w.gone then none else some w.val) else mGet P q := by
  unfold done1; split
  · rw [getp_del]
  · rw [getp_put h]
theorem doneAll_snoc (P : Ps Str) (l : List Wr) (w : Wr) : doneAll P (l ++ [w]) = done1 (doneAll P l) w := by
  unfold doneAll; rw [List.foldl_append]; rfl
theorem doneAll_app (P : Ps Str) (l m : List Wr) : doneAll P (l ++ m) = doneAll (doneAll P l) m := by
  unfold doneAll; rw [List.foldl_append]
/-- the document's way: what comes of the pairs that are left. -/
def rr (k v : Str) : Bool → Ps Str → Ps Str
  | d, [] => if d then [] else [(k, v)]
  | d, p :: l => (if !d && !lt p.1 k then [(k, v)] else []) ++ (if p.1 = k then [] else [p]) ++ rr k v (d || !lt p.1 k) l
theorem rr_true (k v : Str) : ∀ l, rr k v true l = sdel k l
  | [] => rfl
  | p :: l => by
    unfold rr
    rw [Bool.true_or, rr_true k v l]
    unfold sdel
    rw [List.filter_cons]
    by_cases h : p.1 = k
    · simp [h]
    · simp [h]
theorem sdel_none {ν : Type} {k : Str} {l : Ps ν} (h : ∀ q ∈ mKeys l, q ≠ k) : sdel k l = l := by
  unfold sdel
  refine List.filter_eq_self.2 fun p hp => decide_eq_true (h p.1 (List.mem_map_of_mem hp))
theorem rr_false (k v : Str) : ∀ l, SrtP l → rr k v false l = sput k v l
  | [], _ => rfl
  | p :: l, h => by
    have hp : (∀ q ∈ mKeys l, lt p.1 q = true) ∧ SrtP l := List.pairwise_cons.1 h
    unfold rr sput
    by_cases h1 : p.1 = k
    · have hl : lt p.1 k = false := by rw [h1]; exact lt_irrefl k
      rw [hl, if_pos h1, if_pos h1]
      simp only [Bool.not_false, Bool.and_self, if_true, Bool.or_true]
      rw [rr_true, sdel_none fun q hq => by have := hp.1 q hq; rw [h1] at this; exact (ne_of_lt this).symm]
      rfl
    · rw [if_neg h1, if_neg h1]
      by_cases h2 : lt k p.1 = true
      · have hl : lt p.1 k = false := lt_asymm h2
        rw [hl, if_pos h2]
        simp only [Bool.not_false, Bool.and_self, if_true, Bool.or_true]
        rw [rr_true, sdel_none fun q hq => (ne_of_lt (lt_trans h2 (hp.1 q hq))).symm]
        rfl
      · have hl : lt p.1 k = true := by
          cases h3 : lt p.1 k with
          | true => rfl
          | false => exact absurd (lt_total h3 (by simpa using h2)) h1
        rw [hl, if_neg h2]
        simp only [Bool.not_true, Bool.and_false, Bool.or_false]
        rw [rr_false k v l hp.2]
        simp
theorem rr_done {P : Ps Str} (h : SrtP P) (w : Wr) : rr w.key w.val w.gone P = done1 P w := by
  unfold done1
  cases hg : w.gone with
  | true => rw [rr_true]; rfl
  | false => rw [rr_false _ _ _ h]; rfl
/-- what is scanned. -/
def scan (P : Ps Str) (fr : Str) (n : Int) : Ps Str := (P.filter fun p => !lt p.1 fr).take n.toNat
/-- is a write too long, or are there too many? -/
def long (l : List Wr) : Bool := l.any (fun w => decide (48 < w.key.size) || decide (160 < w.val.size)) || decide (1024 < l.length)
end Go.Kv
end

section
set_option linter.unusedSimpArgs false
set_option linter.unusedVariables false
namespace Go.Kv
open Go Go.Vc Go.Dk
abbrev Ptr (a : Addr) : Option Value := some (.pointer (some a))
section
variable {f g f' g' : Addr → Option Value}
/-- from one place over others to one: each leads to the next, and back. -/
def Ch (f g : Addr → Option Value) : Addr → List Addr → Addr → Prop
  | a, [], z => f a = Ptr z ∧ g z = Ptr a
  | a, e :: X, z => (f a = Ptr e ∧ g e = Ptr a) ∧ Ch f g e X z
def lastA : Addr → List Addr → Addr
  | a, [] => a
  | _, e :: X => lastA e X
theorem lastA_mem : ∀ (X : List Addr) (a : Addr), lastA a X ∈ a :: X
  | [], a => List.mem_singleton.2 rfl
  | e :: X, a => List.mem_cons_of_mem _ (lastA_mem X e)
theorem Ch.app : ∀ (X : List Addr) {a e z : Addr} {Y : List Addr}, Ch f g a (X ++ e :: Y) z ↔ Ch f g a X e ∧ Ch f g e Y z
  | [], a, e, z, Y => Iff.rfl
  | x :: X, a, e, z, Y => by
    simp only [List.cons_append, Ch, Ch.app X]
    exact ⟨fun h => ⟨⟨h.1, h.2.1⟩, h.2.2⟩, fun h => ⟨h.1.1, h.1.2, h.2⟩⟩
theorem Ch.congr : ∀ (X : List Addr) {a z : Addr}, Ch f g a X z → (∀ x ∈ a :: X, f' x = f x) → (∀ x ∈ X, g' x = g x) → g' z = g z → Ch f' g' a X z
  | [], a, z, h, hf, hg, hz => ⟨(hf a List.mem_cons_self).trans h.1, hz.trans h.2⟩
  | x :: X, a, z, h, hf, hg, hz => ⟨⟨(hf a List.mem_cons_self).trans h.1.1, (hg x List.mem_cons_self).trans h.1.2⟩,
      Ch.congr X h.2 (fun y hy => hf y (List.mem_cons_of_mem _ hy)) (fun y hy => hg y (List.mem_cons_of_mem _ hy)) hz⟩
theorem Ch.back : ∀ (X : List Addr) {a z : Addr}, Ch f g a X z → g z = Ptr (lastA a X)
  | [], _, _, h => h.2
  | _ :: X, _, _, h => Ch.back X h.2
/-- the last step leads elsewhere. -/
theorem Ch.relink : ∀ (X : List Addr) {a z y : Addr}, Ch f g a X z → (a :: X).Nodup → f' (lastA a X) = Ptr y → g' y = Ptr (lastA a X) → (∀ x ∈ a :: X, x ≠ lastA a X → f' x = f x) → (∀ x ∈ X, g' x = g x) → Ch f' g' a X y
  | [], a, z, y, h, hn, h1, h2, hf, hg => ⟨h1, h2⟩
  | e :: X, a, z, y, h, hn, h1, h2, hf, hg => by
    have hn2 := List.nodup_cons.1 hn
    refine ⟨⟨(hf a List.mem_cons_self fun e2 => hn2.1 (by rw [e2]; exact lastA_mem X e)).trans h.1.1, (hg e List.mem_cons_self).trans h.1.2⟩, Ch.relink X h.2 hn2.2 h1 h2 (fun x hx hne => hf x (List.mem_cons_of_mem _ hx) hne) fun x hx => hg x (List.mem_cons_of_mem _ hx)⟩
/-- one is taken out. -/
theorem Ch.out {X Y : List Addr} {a e z : Addr} (h : Ch f g a (X ++ e :: Y) z) (hn : (a :: (X ++ e :: Y)).Nodup) (hz : z = a)
    (h1 : f' (lastA a X) = Ptr (Y.headD z)) (h2 : g' (Y.headD z) = Ptr (lastA a X)) (hf : ∀ x, x ≠ lastA a X → f' x = f x) (hg : ∀ x, x ≠ Y.headD z → g' x = g x) : Ch f' g' a (X ++ Y) z := by
  subst hz
  obtain ⟨c1, c2⟩ := (Ch.app X).1 h
  have hnX : (z :: X).Nodup := by
    have : (z :: X).Sublist (z :: (X ++ e :: Y)) := List.Sublist.cons_cons _ (List.sublist_append_left _ _)
    exact this.nodup hn
  have hz : z ∉ X ++ e :: Y := (List.nodup_cons.1 hn).1
  have hd := (List.nodup_append.1 (List.nodup_cons.1 hn).2).2.2
  cases Y with
  | nil =>
    rw [List.append_nil]
    refine Ch.relink X c1 hnX h1 h2 (fun x _ hne => hf x hne) fun x hx => hg x fun e2 => ?_
    exact hz (by rw [← show x = z from e2]; exact List.mem_append_left _ hx)
  | cons y Y =>
    refine (Ch.app X).2 ⟨Ch.relink X c1 hnX h1 h2 (fun x _ hne => hf x hne) fun x hx => hg x fun e2 => ?_, ?_⟩
    · exact hd x hx x (by rw [show x = y from e2]; exact List.mem_cons_of_mem _ List.mem_cons_self) rfl
    · have hyY := (List.nodup_cons.1 (List.nodup_append.1 (List.nodup_cons.1 hn).2).2.1).2
      refine Ch.congr Y c2.2 (fun x hx => hf x fun e2 => ?_) (fun x hx => hg x fun e2 => ?_) (hg z fun e2 => hz ?_)
      · rcases List.mem_cons.1 (lastA_mem X z) with h3 | h3
        · exact hz (by rw [← h3, ← e2]; exact List.mem_append_right _ (List.mem_cons_of_mem _ hx))
        · rw [← e2] at h3; exact hd x h3 x (List.mem_cons_of_mem _ hx) rfl
      · exact (List.nodup_cons.1 hyY).1 (by rw [← show x = y from e2]; exact hx)
      · rw [show z = y from e2]; exact List.mem_append_right _ (List.mem_cons_of_mem _ List.mem_cons_self)
/-- one is put in at the end. -/
theorem Ch.inn {X : List Addr} {a e : Addr} (h : Ch f g a X a) (hn : (a :: X).Nodup) (he : e ≠ a) (heX : e ∉ X)
    (h1 : f' (lastA a X) = Ptr e) (h2 : g' e = Ptr (lastA a X)) (h3 : f' e = Ptr a) (h4 : g' a = Ptr e) (hf : ∀ x, x ≠ lastA a X → x ≠ e → f' x = f x) (hg : ∀ x, x ≠ e → x ≠ a → g' x = g x) : Ch f' g' a (X ++ [e]) a := by
  have ha := (List.nodup_cons.1 hn).1
  refine (Ch.app X).2 ⟨Ch.relink X h hn h1 h2 (fun x hx hne => hf x hne fun e2 => ?_) (fun x hx => hg x (fun e2 => heX (e2 ▸ hx)) fun e2 => ha (e2 ▸ hx)), h3, h4⟩
  rcases List.mem_cons.1 hx with h5 | h5
  · exact he (e2.symm.trans h5)
  · exact heX (e2 ▸ h5)
end
/- ------------------------------------------------------------------ what a cache remembers -/
end Go.Kv
end

section
set_option linter.unusedVariables false
set_option maxRecDepth 100000
namespace Go.Proofs.YtkhinnchplahlaaGreatDoor
open Go Go.Vc Go.Proofs

theorem vcStReady (s : Nat) (h : Heap) (R : Value → Heap → Prop) :
    vcF Tryz.prog Tryz.f111 19 [] [] [.pointer (some ⟨s, 0, none⟩)] h R =
(∃ (b0 : Bool),
 Reads Tryz.prog (eqSem BinOp.eql (56 : Nat) (Operand.tmp (4 : Nat)) (Operand.const (Value.pointer none)) (Value.pointer (some (Addr.mk s (0 : Nat) none))) (Value.pointer none)) h (Value.bool b0) ∧
 br b0 (R (Value.int IntKind.i64 (2 : Int)) h)
 (∃ (p1 : Addr),
 some (Addr.mk s (0 : Nat) none) = some p1 ∧
 ∃ (a2 : Option Addr),
 Reads Tryz.prog (Instr.loadAt (25 : Nat) (Value.pointer (some (p1.add (1 : Nat))))) h (Value.pointer a2) ∧
 ∃ (b3 : Bool),
 Reads Tryz.prog (eqSem BinOp.neq (25 : Nat) (Operand.tmp (10 : Nat)) (Operand.const (Value.pointer none)) (Value.pointer a2) (Value.pointer none)) h (Value.bool b3) ∧
 ∃ (p4 : Addr),
 (b3 = true → some (Addr.mk s (0 : Nat) none) = some p4) ∧
 ∃ (a5 : Option Addr),
 (b3 = true → Reads Tryz.prog (Instr.loadAt (25 : Nat) (Value.pointer (some (p4.add (1 : Nat))))) h (Value.pointer a5)) ∧
 br b3
 (HC Tryz.prog (34 : Nat) (Array.mk [Value.pointer a5]) h fun (v6 : Value) (h7 : Heap) =>
 ∃ (b8 : Bool), v6 = Value.bool b8 ∧ br b8 (R (Value.int IntKind.i64 (8 : Int)) h7) (R (Value.int IntKind.i64 (0 : Int)) h7))
 (R (Value.int IntKind.i64 (0 : Int)) h))) := by kernel_rfl

theorem vcStGet (s : Nat) (k : ByteArray) (h : Heap) (R : Value → Heap → Prop) :
    vcF Tryz.prog Tryz.f58 22 [] [] [.pointer (some ⟨s, 0, none⟩), .string k] h R =
(HC Tryz.prog (111 : Nat) (Array.mk [Value.pointer (some (Addr.mk s (0 : Nat) none))]) h fun (v0 : Value) (h1 : Heap) =>
 ∃ (n2 : Int),
 v0 = Value.int IntKind.i64 n2 ∧
 br (n2 != (0 : Int)) (R (Value.tuple (Array.mk [Value.string (ByteArray.mk (Array.mk [])), Value.bool false, Value.int IntKind.i64 n2])) h1)
 (∃ (p3 : Addr),
 some (Addr.mk s (0 : Nat) none) = some p3 ∧
 ∃ (v4 : Value),
 Reads Tryz.prog (Instr.loadAt (105 : Nat) (Value.pointer (some p3))) h1 v4 ∧
 ∃ (k5 : Nat),
 ∃ (v6 : Value),
 Meth Tryz.prog v4 "rootstock/store.get" k5 v6 ∧
 HC Tryz.prog k5 (Array.mk [v6, Value.string k]) h1 fun (v7 : Value) (h8 : Heap) =>
 ∃ (s9 : ByteArray),
 ∃ (b10 : Bool),
 ∃ (n11 : Int),
 v7 = Value.tuple (Array.mk [Value.string s9, Value.bool b10, Value.int IntKind.i64 n11]) ∧
 R (Value.tuple (Array.mk [Value.string s9, Value.bool b10, Value.int IntKind.i64 n11])) h8)) := by kernel_rfl

theorem vcMGet (m : Nat) (k : ByteArray) (h : Heap) (R : Value → Heap → Prop) :
    vcF Tryz.prog Tryz.f257 18 [] [] [.agg #[.map (some m)], .string k] h R =
(∃ (a0 : Option Nat),
 Reads Tryz.prog (Instr.loadAt (101 : Nat) (Value.pointer (some (Addr.mk (Array.size h) (0 : Nat) none)))) (Array.push h (Obj.cells (Array.mk [Value.map (some m)]) (103 : Nat))) (Value.map a0) ∧
 ∃ (s1 : ByteArray),
 ∃ (b2 : Bool),
 Reads Tryz.prog (Instr.lookup (101 : Nat) (Value.map a0) (Value.string k) true) (Array.push h (Obj.cells (Array.mk [Value.map (some m)]) (103 : Nat)))
 (Value.tuple (Array.mk [Value.string s1, Value.bool b2])) ∧
 R (Value.tuple (Array.mk [Value.string s1, Value.bool b2, Value.int IntKind.i64 (0 : Int)])) (Array.push h (Obj.cells (Array.mk [Value.map (some m)]) (103 : Nat)))) := by kernel_rfl

theorem vcContW (A : Option Addr) (n c : Nat) (g : Nat) (h : Heap) (R : Value → Heap → Prop) :
    vcF Tryz.prog Tryz.f40 9 [] [] [.slice A n c, .func (.func g) #[] #[]] h R =
(HC Tryz.prog (90 : Nat) (Array.mk [Value.slice A n c, Value.func (Fn.func g) (Array.mk []) (Array.mk [])]) h fun (v0 : Value) (h1 : Heap) =>
 ∃ (n2 : Int), v0 = Value.int IntKind.i64 n2 ∧ R (Value.bool (decide (n2 ≥ (0 : Int)))) h1) := by kernel_rfl

theorem vcIdxW (A : Option Addr) (n c : Nat) (g : Nat) (h : Heap) (R : Value → Heap → Prop) :
    vcF Tryz.prog Tryz.f90 19 [] [] [.slice A n c, .func (.func g) #[] #[]] h R =
(∃ (I0 : Int → Int → Heap → Prop),
 ∃ (I1 : Int → Int → Heap → Nat),
 I0 (0 : Int) (0 : Int) h ∧
 ∀ (n2 n3 : Int) (h4 : Heap),
 I0 n2 n3 h4 →
 br (decide (n3 < (↑n : Int)))
 (∃ (p5 : Addr),
 (A = some p5 ∧ (0 : Int) ≤ n3 ∧ n3 < (↑n : Int)) ∧
 ∃ (s6 : ByteArray),
 ∃ (s7 : ByteArray),
 ∃ (b8 : Bool),
 Reads Tryz.prog (Instr.loadAt (42 : Nat) (Value.pointer (some (p5.add (n3.toNat * (3 : Nat)))))) h4 (Value.agg (Array.mk [Value.string s6, Value.string s7, Value.bool b8])) ∧
 br (fnOk Tryz.prog g)
 (HC Tryz.prog g (Array.mk [Value.agg (Array.mk [Value.string s6, Value.string s7, Value.bool b8])]) h4 fun (v9 : Value) (h10 : Heap) =>
 ∃ (b11 : Bool),
 v9 = Value.bool b11 ∧
 br b11 (R (Value.int IntKind.i64 n3) h10) (I0 n2 (IntKind.i64.wrap (n3 + (1 : Int))) h10 ∧ I1 n2 (IntKind.i64.wrap (n3 + (1 : Int))) h10 < I1 n2 n3 h4))
 False)
 (R (Value.int IntKind.i64 (-1 : Int)) h4)) := by kernel_rfl
end Go.Proofs.YtkhinnchplahlaaGreatDoor
end

section
set_option linter.unusedVariables false
set_option linter.unusedSimpArgs false
set_option maxRecDepth 100000
namespace Go.Proofs.YtkhinnchplahlaaGreatDoor
open Go Go.Vc Go.Proofs Go.Dk Go.Kv

theorem kM : Tryz.prog.follows .mixedOrders = true := by kernel_rfl
theorem uS : Tryz.prog.underlying 9 = some .string := by kernel_rfl
theorem kS : scT Tryz.prog 9 = true := by kernel_rfl
theorem kI : scT Tryz.prog 3 = true := by kernel_rfl
theorem kB : scT Tryz.prog 4 = true := by kernel_rfl
theorem zS : szOf Tryz.prog 9 = some 1 := by kernel_rfl
theorem kzI : szOf Tryz.prog 3 = some 1 := by kernel_rfl
/-- a write in cells. -/
def WrE : Enc Wr := ⟨3, fun w => [.string w.key, .string w.val, .bool w.gone], fun _ => rfl, fun q v hv => by
  simp only [List.mem_cons, List.not_mem_nil, or_false] at hv
  rcases hv with rfl | rfl | rfl
  · exact one_string _
  · exact one_string _
  · exact one_bool _⟩
abbrev wrVal (w : Wr) : Value := .agg #[.string w.key, .string w.val, .bool w.gone]
abbrev wrBox (w : Wr) : Obj := .cells #[.string w.key, .string w.val, .bool w.gone] 42 (0, 0)
theorem agWr : agT Tryz.prog 42 3 = true := by kernel_rfl
theorem szWr : szOf Tryz.prog 42 = some 3 := by kernel_rfl
theorem wr_at {h : Heap} {A : Option Addr} {n k : Nat} {l : List Wr} {w : Wr} (hs : Sl WrE h A n l) (hq : l[k]? = some w) :
    ∃ p, A = some p ∧ Reads Tryz.prog (Instr.loadAt 42 (.pointer (some (p.add (k * 3))))) h (.agg (Array.mk [.string w.key, .string w.val, .bool w.gone])) := by
  obtain ⟨p, e, hp⟩ := hs.get hq
  exact ⟨p, e, reads_load_agg (cs := [.string w.key, .string w.val, .bool w.gone]) agWr rfl fun j v hv => by rw [Addr.add_add]; exact hp j v hv⟩
theorem svc_wr {w : Wr} {h : Heap} {old : Array Value} {K : Unit → Heap → Prop} (ho : old.size = 3) (k : K () (h.push (wrBox w))) :
    SVC Tryz.prog (Instr.storeAt 42 (.pointer (some ⟨h.size, 0, none⟩)) (.agg (Array.mk [.string w.key, .string w.val, .bool w.gone]))) (h.push (.cells old 42 (0, 0))) K :=
  svc_store_new (v := wrVal w) szWr ho (fun v hv => WrE.one w v hv) k
section
variable {w : Wr} {h : Heap} {b : Nat}
theorem wr_k (hb : h[b]? = some (wrBox w)) : Reads Tryz.prog (Instr.loadAt 9 (.pointer (some ⟨b, 0, none⟩))) h (.string w.key) := reads_load kS (cell_cells0 hb rfl)
theorem wr_v (hb : h[b]? = some (wrBox w)) : Reads Tryz.prog (Instr.loadAt 9 (.pointer (some ((⟨b, 0, none⟩ : Addr).add 1)))) h (.string w.val) := reads_load kS (cell_cells hb rfl)
theorem wr_g (hb : h[b]? = some (wrBox w)) : Reads Tryz.prog (Instr.loadAt 4 (.pointer (some ((⟨b, 0, none⟩ : Addr).add 2)))) h (.bool w.gone) := reads_load kB (cell_cells hb rfl)
end
/-- a row of writes is gone over: is there one such? -/
theorem contW_spec {h : Heap} {A : Option Addr} {n c f : Nat} {l : List Wr} {p : Wr → Bool} (hs : Sl WrE h A n l) (hn : n ≤ 9223372036854775807) (hf0 : fnOk Tryz.prog f = true)
    (hf : ∀ (w : Wr) (g : Heap), HC Tryz.prog f #[wrVal w] g fun v g' => Keep g.size g g' ∧ v = .bool (p w)) :
    HC Tryz.prog 40 #[.slice A n c, .func (.func f) #[] #[]] h fun v h' => Keep h.size h h' ∧ v = .bool (l.any p) := by
  have hl := hs.1
  have idx : HC Tryz.prog 90 #[.slice A n c, .func (.func f) #[] #[]] h fun v h' => Keep h.size h h' ∧ ∃ i : Int, v = .int .i64 i ∧ decide (i ≥ 0) = l.any p := by
    refine HC_of_vc (args := [.slice A n c, .func (.func f) #[] #[]]) (base := 19) (cuts := []) (bigs := []) kM Tryz.func90 ?_
    rw [vcIdxW]
    refine ⟨fun _ n3 H => ∃ j : Nat, n3 = j ∧ j ≤ n ∧ Keep h.size h H ∧ (l.take j).any p = false, fun _ n3 _ => n - n3.toNat, ⟨0, rfl, Nat.zero_le _, Keep.refl _ _, by simp⟩, ?_⟩
    rintro n2 n3 H ⟨j, rfl, hj, kH, hno⟩
    refine br_intro (fun e => ?_) fun e => ?_
    · have e := of_decide_eq_true e
      have hq : l[j]? = some (l[j]'(by omega)) := List.getElem?_eq_getElem (by omega)
      have htk : l.take (j + 1) = l.take j ++ [l[j]'(by omega)] := List.take_succ_eq_append_getElem (by omega)
      have hmem := List.getElem_mem (by omega : j < l.length)
      generalize l[j]'(by omega) = w at hq htk hmem
      obtain ⟨p5, ea, rd⟩ := wr_at (hs.keep kH) hq
      refine ⟨p5, ⟨ea, by omega, e⟩, _, _, _, rd, br_intro (fun _ => ?_) fun e => by rw [hf0] at e; cases e⟩
      refine (hf w H).mono ?_
      rintro v h10 ⟨k10, rfl⟩
      have kk := kH.trans (k10.mono kH.size)
      refine ⟨_, rfl, br_intro (fun e2 => ⟨kk, _, rfl, ?_⟩) fun e2 => ?_⟩
      · rw [decide_eq_true (by omega)]
        exact (List.any_eq_true.2 ⟨w, hmem, e2⟩).symm
      · rw [wrap_i64 (by omega) (by omega)]
        exact ⟨⟨j + 1, rfl, by omega, kk, by rw [htk, List.any_append, hno]; simp [e2]⟩, by dsimp only; omega⟩
    · have e := of_decide_eq_false e
      have hjn : j = n := by omega
      subst hjn
      rw [← hl, List.take_length] at hno
      exact ⟨kH, _, rfl, by rw [hno]; decide⟩
  refine HC_of_vc (args := [.slice A n c, .func (.func f) #[] #[]]) (base := 9) (cuts := []) (bigs := []) kM Tryz.func40 ?_
  rw [vcContW]
  refine idx.mono ?_
  rintro v h1 ⟨k1, i, rfl, e⟩
  exact ⟨_, rfl, k1, by rw [e]⟩
end Go.Proofs.YtkhinnchplahlaaGreatDoor
end

section
set_option linter.unusedVariables false
set_option linter.unusedSimpArgs false
set_option maxRecDepth 100000
namespace Go.Proofs
open Go Go.RowKit Go.Sort Go.Shelf
def cmpS (a b : ByteArray) : Int := if Op.bytesLess a.toList b.toList then -1 else if Op.bytesLess b.toList a.toList then 1 else 0
theorem cmpS_gt {a b : ByteArray} (h : Op.bytesLess a.toList b.toList = false) : cmpS a b = if (!(Op.bytesLess a.toList b.toList || a.toList == b.toList)) = true then 1 else 0 := by
  unfold cmpS
  rw [if_neg (by rw [h]; decide), h, Bool.false_or]
  cases h2 : (a.toList == b.toList) with
  | true =>
    have : a = b := Go.Dk.eq_beq.1 h2
    subst this
    rw [h]; rfl
  | false =>
    have hne : a ≠ b := fun e => by subst e; simp at h2
    cases h3 : Op.bytesLess b.toList a.toList with
    | true => rfl
    | false => exact absurd (Go.Dk.lt_total h h3) hne
theorem run_gtrS (P : Program) (t : TypeId) (a b : ByteArray) (w : World) : (binOp .gtr t (.string a) (.string b)).run P w = .ok (.bool (!(Op.bytesLess a.toList b.toList || a.toList == b.toList))) w := by
  simp [binOp, Op.stringOp]
attribute [local go_sem] run_gtrS
set_option maxHeartbeats 1000000 in
theorem Tryz.compareS (a b : ByteArray) (W : World) : Calls Tryz.prog 103 #[.string a, .string b] W fun e w' => e = .returned (.int .i64 (cmpS a b)) ∧ w' = W := by
  cases h1 : Op.bytesLess a.toList b.toList with
  | true =>
    have hc : cmpS a b = -1 := by unfold cmpS; rw [if_pos h1]
    rw [hc]
    go_enter Tryz.func103, Tryz.ntmps103
    go_wp2
    go_ret
    exact ⟨rfl, rfl⟩
  | false =>
    have hc := cmpS_gt h1
    generalize cmpS a b = r at hc ⊢
    rw [h1] at hc
    go_enter Tryz.func103, Tryz.ntmps103
    go_wp2
    · rename_i hx
      go_ret
      refine ⟨?_, rfl⟩
      rw [hc, Bool.false_or, if_pos hx]; rfl
    · rename_i hx
      go_ret
      refine ⟨?_, rfl⟩
      rw [hc, Bool.false_or, if_neg (by rw [hx]; decide)]; rfl
set_option maxHeartbeats 1000000 in
theorem Tryz.lessWr (x y : Go.Kv.Wr) (W : World) : Calls Tryz.prog 107 #[.agg #[.string x.key, .string x.val, .bool x.gone], .agg #[.string y.key, .string y.val, .bool y.gone]] W fun e w' => e = .returned (.int .i64 (cmpS x.key y.key)) ∧ ∃ q os', w' = grow (W.drewN q) os' := by
  have hcon := fun W' => Tryz.compareS x.key y.key W'
  generalize cmpS x.key y.key = r at hcon ⊢
  go_enter Tryz.func107, Tryz.ntmps107
  go_wp2_with (go_at_call 103; refine (hcon _).mono ?_; rintro e w' ⟨rfl, rfl⟩)
  go_ret
  exact ⟨rfl, 0, _, by rw [alloc_eq_grow, alloc_eq_grow, grow_grow]; rfl⟩
section
open Go.Shelf
def Tryz.sortWr_ren : Go.Shelf.Ren := ⟨fun | 6 => 106 | 15 => 143 | 14 => 142 | 28 => 178 | 29 => 179 | 20 => 170 | 21 => 171 | 22 => 172 | 23 => 173 | 24 => 174 | 25 => 175 | 26 => 176 | 27 => 177 | 46 => 191 | 47 => 192 | 48 => 193 | 49 => 194 | 50 => 195 | 57 => 213 | n => n, fun | 22 => 32 | 24 => 42 | 25 => 178 | 3 => 3 | 39 => 152 | 0 => 0 | 53 => 206 | 55 => 33 | 4 => 4 | 46 => 238 | 45 => 237 | 50 => 130 | 5 => 5 | 9 => 9 | 66 => 260 | 70 => 263 | 76 => 283 | 77 => 284 | n => n, fun | n => n⟩
theorem Tryz.sortWr : Go.Proofs.SlLaysF0.n6 Tryz.prog Tryz.sortWr_ren := {
  mixed := by kernel_rfl
  f6 := ⟨Tryz.f106.name, by decide, Tryz.func106.trans (congrArg some (by kernel_rfl))⟩
  f14 := ⟨Tryz.f142.name, by decide, Tryz.func142.trans (congrArg some (by kernel_rfl))⟩
  f15 := Tryz.func143.trans (congrArg some (by kernel_rfl))
  f20 := ⟨Tryz.f170.name, by decide, Tryz.func170.trans (congrArg some (by kernel_rfl))⟩
  f21 := ⟨Tryz.f171.name, by decide, Tryz.func171.trans (congrArg some (by kernel_rfl))⟩
  f22 := ⟨Tryz.f172.name, by decide, Tryz.func172.trans (congrArg some (by kernel_rfl))⟩
  f23 := ⟨Tryz.f173.name, by decide, Tryz.func173.trans (congrArg some (by kernel_rfl))⟩
  f24 := ⟨Tryz.f174.name, by decide, Tryz.func174.trans (congrArg some (by kernel_rfl))⟩
  f25 := ⟨Tryz.f175.name, by decide, Tryz.func175.trans (congrArg some (by kernel_rfl))⟩
  f26 := ⟨Tryz.f176.name, by decide, Tryz.func176.trans (congrArg some (by kernel_rfl))⟩
  f27 := ⟨Tryz.f177.name, by decide, Tryz.func177.trans (congrArg some (by kernel_rfl))⟩
  f28 := Tryz.func178.trans (congrArg some (by kernel_rfl))
  f29 := Tryz.func179.trans (congrArg some (by kernel_rfl))
  f46 := ⟨Tryz.f191.name, by decide, Tryz.func191.trans (congrArg some (by kernel_rfl))⟩
  f47 := Tryz.func192.trans (congrArg some (by kernel_rfl))
  f48 := Tryz.func193.trans (congrArg some (by kernel_rfl))
  f49 := ⟨Tryz.f194.name, by decide, Tryz.func194.trans (congrArg some (by kernel_rfl))⟩
  f50 := ⟨Tryz.f195.name, by decide, Tryz.func195.trans (congrArg some (by kernel_rfl))⟩
  f57 := ⟨Tryz.f213.name, by decide, Tryz.func213.trans (congrArg some (by kernel_rfl))⟩
  t0 := Tryz.underlying0
  a0 := Tryz.isAgg0
  z0 := Tryz.sizeOf0
  v0 := Tryz.zeroValue0
  t3 := Tryz.underlying3
  a3 := Tryz.isAgg3
  z3 := Tryz.sizeOf3
  v3 := Tryz.zeroValue3
  t4 := Tryz.underlying4
  a4 := Tryz.isAgg4
  z4 := Tryz.sizeOf4
  v4 := Tryz.zeroValue4
  t5 := Tryz.underlying5
  a5 := Tryz.isAgg5
  z5 := Tryz.sizeOf5
  v5 := Tryz.zeroValue5
  t9 := Tryz.underlying9
  a9 := Tryz.isAgg9
  z9 := Tryz.sizeOf9
  v9 := Tryz.zeroValue9
  t22 := Tryz.underlying32
  a22 := Tryz.isAgg32
  z22 := Tryz.sizeOf32
  v22 := Tryz.zeroValue32
  t25 := Tryz.underlying178
  a25 := Tryz.isAgg178
  z25 := Tryz.sizeOf178
  v25 := Tryz.zeroValue178
  t39 := Tryz.underlying152
  a39 := Tryz.isAgg152
  z39 := Tryz.sizeOf152
  v39 := Tryz.zeroValue152
  t45 := Tryz.underlying237
  a45 := Tryz.isAgg237
  z45 := Tryz.sizeOf237
  v45 := Tryz.zeroValue237
  t46 := Tryz.underlying238
  a46 := Tryz.isAgg238
  z46 := Tryz.sizeOf238
  v46 := Tryz.zeroValue238
  t50 := Tryz.underlying130
  a50 := Tryz.isAgg130
  z50 := Tryz.sizeOf130
  v50 := Tryz.zeroValue130
  t53 := Tryz.underlying206
  a53 := Tryz.isAgg206
  z53 := Tryz.sizeOf206
  v53 := Tryz.zeroValue206
  t55 := Tryz.underlying33
  a55 := Tryz.isAgg33
  z55 := Tryz.sizeOf33
  v55 := Tryz.zeroValue33
  t66 := Tryz.underlying260
  a66 := Tryz.isAgg260
  z66 := Tryz.sizeOf260
  v66 := Tryz.zeroValue260
  t70 := Tryz.underlying263
  a70 := Tryz.isAgg263
  z70 := Tryz.sizeOf263
  v70 := Tryz.zeroValue263
  t76 := Tryz.underlying283
  a76 := Tryz.isAgg283
  z76 := Tryz.sizeOf283
  v76 := Tryz.zeroValue283
  t77 := Tryz.underlying284
  a77 := Tryz.isAgg284
  z77 := Tryz.sizeOf284
  v77 := Tryz.zeroValue284 }
end
theorem cmpS_lt (a b : ByteArray) : decide (cmpS a b < 0) = Go.Dk.lt a b := by
  unfold cmpS
  show _ = Op.bytesLess a.toList b.toList
  cases h1 : Op.bytesLess a.toList b.toList with
  | true => rfl
  | false => cases h2 : Op.bytesLess b.toList a.toList <;> simp
/-- a strict weak order by keys. -/
theorem swoKey {α : Type} (f : α → ByteArray) : SWO (ltOf fun x y : α => cmpS (f x) (f y)) where
  irrefl x := by unfold ltOf; rw [cmpS_lt]; exact Go.Dk.lt_irrefl _
  trans x y z h1 h2 := by unfold ltOf at *; rw [cmpS_lt] at *; exact Go.Dk.lt_trans h1 h2
  ntrans x y z h1 h2 := by
    unfold ltOf at *; rw [cmpS_lt] at *
    cases h3 : Go.Dk.lt (f x) (f z) with
    | false => rfl
    | true =>
      cases h4 : Go.Dk.lt (f y) (f x) with
      | true => rw [Go.Dk.lt_trans h4 h3] at h2; cases h2
      | false =>
        have e := Go.Dk.lt_total h1 h4
        rw [e, h2] at h3; cases h3
end Go.Proofs
end

section
set_option linter.unusedSimpArgs false
set_option linter.unusedVariables false
namespace Go.Vc
open Go Go.Sort Go.Proofs

theorem holdsK_of {α : Type} [Inhabited α] {E : Enc α} {w : World} {b : Nat} {cells : Array Value} {T : TypeId} {xs : List α} {rest : List Value} (hb : w.heap[b]? = some (.cells cells T (0, 0))) (hr : cells.toList = xs.flatMap E.enc ++ rest) : HoldsK E.enc E.sz w b 0 xs.toArray := by
  intro j hj
  rw [size_flatK, List.size_toArray] at hj
  have hsz : 0 < E.sz := by
    rcases Nat.eq_zero_or_pos E.sz with h | h
    · rw [h] at hj; omega
    · exact h
  have h1 : j / E.sz < xs.length := Nat.div_lt_of_lt_mul (by rw [Nat.mul_comm]; exact hj)
  have h2 : j % E.sz < E.sz := Nat.mod_lt _ hsz
  have hlen : (E.enc xs[j / E.sz]).length = E.sz := E.len _
  have hc : (xs.flatMap E.enc)[j]? = some ((E.enc xs[j / E.sz])[j % E.sz]'(by rw [hlen]; exact h2)) := by
    have := flat_get (E := E) xs (i := j / E.sz) (x := xs[j / E.sz]) (j := j % E.sz) (List.getElem?_eq_getElem h1) (List.getElem?_eq_getElem (by rw [hlen]; exact h2))
    rwa [Nat.mul_comm, Nat.div_add_mod] at this
  have hcell : cells[j]? = some ((E.enc xs[j / E.sz])[j % E.sz]'(by rw [hlen]; exact h2)) := by
    rw [← Array.getElem?_toList, hr, List.getElem?_append_left (by rw [flat_len]; exact hj)]
    exact hc
  have hfl : (flatK E.enc E.sz xs.toArray)[j]! = (E.enc xs[j / E.sz])[j % E.sz]'(by rw [hlen]; exact h2) := by
    rw [get_flatK _ _ _ _ (by rw [List.size_toArray]; exact hj)]
    have e1 : xs.toArray[j / E.sz]! = xs[j / E.sz] := by simp [h1]
    rw [e1]
    rw [getElem!_pos _ _ (by rw [hlen]; exact h2)]
  refine ⟨?_, ?_⟩
  · rw [cell_eq, Nat.zero_add]
    rw [cell_at hb, hcell, hfl]; rfl
  · rw [froz_eq]
    unfold froz
    dsimp only
    rw [hb]
    simp
theorem sort_hc {α : Type} [Inhabited α] {E : Enc α} {P : Program} {T f g : Nat} {h : Heap} {B n c : Nat} {a : Option Addr} {xs : List α} {lt : α → α → Bool} (ho : Vc.Own E T B h a n c xs) (hn : n < 4611686018427387904)
    (hcall : ∀ (b cap : Nat) (d : Array α) (w : World), HoldsK E.enc E.sz w b 0 d → b < w.heap.size → d.size < 4611686018427387904 → Calls P f #[.slice (some ⟨b, 0, none⟩) d.size cap, .func (.func g) #[] #[]] w fun e w' => e = .returned (.tuple #[]) ∧ ∃ d' m os, PermIn 0 d.size d d' ∧ SortedIn lt 0 d.size d' ∧ w' = sortWorldK E.enc E.sz w b 0 m d' os)
    (hnone : ∀ (cap : Nat) (w : World), Calls P f #[.slice none 0 cap, .func (.func g) #[] #[]] w fun e w' => e = .returned (.tuple #[]) ∧ w' = w) :
    HC P f #[.slice a n c, .func (.func g) #[] #[]] h fun v h' => v = .tuple #[] ∧ ∃ ys, Vc.Own E T B h' a n c ys ∧ ys.Perm xs ∧ ys.Pairwise (fun x y => lt y x = false) ∧ Upd (blk a) h h' := by
  obtain ⟨h1, h2, h3⟩ := ho
  rcases h3 with ⟨rfl, rfl⟩ | ⟨b, cells, rfl, hB, hb, hc, rest, hr⟩
  · have hn0 : n = 0 := by omega
    subst hn0
    have hx : xs = [] := List.eq_nil_of_length_eq_zero h1
    subst hx
    refine ⟨fun w hw => (hnone 0 w).mono fun e w' ⟨he, hw'⟩ => ⟨_, he, by rw [hw']; exact Sane.refl _, rfl, [], ?_, List.Perm.refl _, List.Pairwise.nil, ?_⟩⟩
    · rw [hw', hw]; exact ⟨rfl, Nat.zero_le _, .inl ⟨rfl, rfl⟩⟩
    · rw [hw', hw]; exact Upd.refl _ _
  · refine ⟨fun w hw => ?_⟩
    subst hw
    have hH := holdsK_of (E := E) hb hr
    have hbl := at_lt hb
    have hd : (xs.toArray).size = n := by rw [List.size_toArray]; exact h1
    have call := hcall b c xs.toArray w hH hbl (by omega)
    rw [hd] at call
    refine call.mono ?_
    rintro e w' ⟨rfl, d', m, os, hp, hs, rfl⟩
    have hps := hp.1
    have hp2 := hp.2.2
    rw [hd] at hps
    have hheap : (sortWorldK E.enc E.sz w b 0 m d' os).heap = (w.heap.modify b (onCells (putCells id 0 (flatK E.enc E.sz d')))) ++ os := rfl
    have hoth : ∀ q, q < w.heap.size → q ≠ b → (sortWorldK E.enc E.sz w b 0 m d' os).heap[q]? = w.heap[q]? := fun q hq hne => by
      rw [hheap, Array.getElem?_append_left (by simpa using hq), Array.getElem?_modify, if_neg (Ne.symm hne)]
    have hat : (sortWorldK E.enc E.sz w b 0 m d' os).heap[b]? = some (.cells (putCells id 0 (flatK E.enc E.sz d') cells) T (0, 0)) := by
      rw [hheap, Array.getElem?_append_left (by simpa using hbl), Array.getElem?_modify, if_pos rfl, hb]; rfl
    have hsz : w.heap.size ≤ (sortWorldK E.enc E.sz w b 0 m d' os).heap.size := by rw [hheap]; simp
    refine ⟨_, rfl, ⟨rfl, rfl, rfl, hsz, fun q o hq hm => ?_⟩, rfl, d'.toList, ⟨?_, h2, .inr ⟨b, _, rfl, hB, hat, ?_, cells.toList.drop (n * E.sz), ?_⟩⟩, ?_, ?_, ⟨hsz, fun q hq hn' => hoth q hq fun e => hn' ⟨_, rfl, e.symm⟩⟩⟩
    · by_cases e : q = b
      · subst e; rw [hb] at hq; cases hq; cases hm
      · rw [hoth q (Array.getElem?_eq_some_iff.1 hq).1 e]; exact hq
    · rw [Array.length_toList]; exact hps
    · simp [putCells, hc]
    · have hfl : (d'.toList.flatMap E.enc).length = n * E.sz := by rw [flat_len, Array.length_toList, hps]
      have hcl : cells.toList.length = c * E.sz := by rw [Array.length_toList]; exact hc
      have hle : n * E.sz ≤ c * E.sz := Nat.mul_le_mul_right _ h2
      refine List.ext_getElem? fun j => ?_
      rw [Array.getElem?_toList]
      have e0 : (putCells id 0 (flatK E.enc E.sz d') cells)[j]? = (cells[j]?).map fun x => if j < n * E.sz then (flatK E.enc E.sz d')[j]! else x := by
        unfold putCells
        rw [Array.getElem?_mapIdx, size_flatK, hps]
        simp
      rw [e0]
      by_cases hj : j < n * E.sz
      · rw [List.getElem?_append_left (by rw [hfl]; exact hj)]
        have hsz0 : 0 < E.sz := by
          rcases Nat.eq_zero_or_pos E.sz with h | h
          · rw [h] at hj; omega
          · exact h
        have g1 : j / E.sz < d'.size := by rw [hps]; exact Nat.div_lt_of_lt_mul (by rw [Nat.mul_comm]; exact hj)
        have g2 : j % E.sz < E.sz := Nat.mod_lt _ hsz0
        have hlen : (E.enc d'[j / E.sz]).length = E.sz := E.len _
        have := flat_get (E := E) d'.toList (i := j / E.sz) (x := d'[j / E.sz]) (j := j % E.sz) (by rw [Array.getElem?_toList, Array.getElem?_eq_getElem g1]) (List.getElem?_eq_getElem (by rw [hlen]; exact g2))
        rw [Nat.mul_comm, Nat.div_add_mod] at this
        rw [this]
        have hjc : j < cells.size := by rw [hc]; omega
        rw [Array.getElem?_eq_getElem hjc]
        simp only [Option.map_some, if_pos hj]
        rw [get_flatK _ _ _ _ (by rw [hps]; exact hj), getElem!_pos d' _ g1, getElem!_pos _ _ (by rw [hlen]; exact g2)]
      · rw [List.getElem?_append_right (by rw [hfl]; omega), hfl, List.getElem?_drop, Array.getElem?_toList]
        have e3 : n * E.sz + (j - n * E.sz) = j := by omega
        rw [e3]
        simp only [if_neg hj]
        cases cells[j]? <;> rfl
    · have e1 : (d'.extract 0 n).toList = d'.toList := by rw [← hps]; simp
      have e2 : (xs.toArray.extract 0 n).toList = xs := by rw [← hd]; simp
      rw [e1, e2] at hp2
      exact hp2
    · rw [List.pairwise_iff_getElem]
      intro i j hi hj hij
      rw [Array.length_toList] at hi hj
      have := hs i j (Nat.zero_le _) hij (by rw [← hps]; exact hj)
      rw [getElem!_pos d' j hj, getElem!_pos d' i hi] at this
      simpa using this
end Go.Vc
end

section
set_option linter.unusedSimpArgs false
set_option linter.unusedVariables false
set_option maxRecDepth 20000
namespace Go.Cd
open Go Go.Vc

/-- a number's bytes: seven bits a byte, the lowest first. -/
def uintB (n : Nat) : List UInt8 := if h : n < 128 then [UInt8.ofNat n] else UInt8.ofNat (n % 128 + 128) :: uintB (n / 128)
termination_by n
decreasing_by omega
theorem uintB_small {n : Nat} (h : n < 128) : uintB n = [UInt8.ofNat n] := by rw [uintB, dif_pos h]
theorem uintB_big {n : Nat} (h : ¬ n < 128) : uintB n = UInt8.ofNat (n % 128 + 128) :: uintB (n / 128) := by rw [uintB, dif_neg h]
theorem uintB_len : ∀ (k n : Nat), n < 128 ^ (k + 1) → (uintB n).length ≤ k + 1
  | 0, n, h => by rw [uintB_small (by simpa using h)]; simp
  | k + 1, n, h => by
    by_cases hn : n < 128
    · rw [uintB_small hn]; simp
    · rw [uintB_big hn, List.length_cons]
      have := uintB_len k (n / 128) (by rw [Nat.pow_succ] at h; exact Nat.div_lt_of_lt_mul (by rw [Nat.mul_comm]; exact h))
      omega
theorem uintB_len10 {n : Nat} (h : n < 18446744073709551616) : (uintB n).length ≤ 10 := by
  have h1 : (128 : Nat) ^ (9 + 1) = 1180591620717411303424 := by decide
  exact uintB_len 9 n (by rw [h1]; omega)
theorem uintB_pos (n : Nat) : 0 < (uintB n).length := by
  by_cases h : n < 128
  · rw [uintB_small h]; simp
  · rw [uintB_big h]; simp
def textB (s : ByteArray) : List UInt8 := uintB s.size ++ bytesL s
def b8 (n : Int) : UInt8 := UInt8.ofNat (n % 256).toNat
theorem u8_b8 (n : Int) : IntKind.u8.wrap n = ((b8 n).toNat : Int) := by
  have h1 : IntKind.u8.wrap n = n % 256 := by simp [IntKind.wrap, IntKind.signed, IntKind.bits]
  unfold b8
  rw [h1, UInt8.toNat_ofNat']
  omega
theorem b8_nat {n : Nat} : b8 n = UInt8.ofNat n := by
  unfold b8
  apply UInt8.toNat_inj.1
  rw [UInt8.toNat_ofNat', UInt8.toNat_ofNat']
  omega
theorem or128 : ∀ k : Fin 256, ((BitVec.ofInt 8 (k.val : Int)) ||| BitVec.ofInt 8 128).toNat = k.val % 128 + 128 := by decide
theorem or_lead (m : Nat) : IntKind.u8.wrap ((BitVec.ofInt 8 (IntKind.u8.wrap (m : Int)) ||| BitVec.ofInt 8 128).toNat : Int) = ((UInt8.ofNat (m % 128 + 128)).toNat : Int) := by
  have h1 : IntKind.u8.wrap (m : Int) = ((m % 256 : Nat) : Int) := by simp [IntKind.wrap, IntKind.signed, IntKind.bits]
  rw [h1]
  have := or128 ⟨m % 256, by omega⟩
  rw [this, u8_b8, b8_nat]
  have e : m % 256 % 128 = m % 128 := by omega
  rw [e]
/-- a check's step by one bit; by a byte; by bytes. -/
def crc1 (n : Int) : Int := IntKind.u32.wrap (BitVec.ofInt 32 (n.fdiv (2 ^ 1)) ^^^ BitVec.ofInt 32 (IntKind.u32.wrap (BitVec.ofInt 32 2197175160 &&& BitVec.ofInt 32 (IntKind.u32.wrap (0 - IntKind.u32.wrap (BitVec.ofInt 32 n &&& BitVec.ofInt 32 1).toNat))).toNat)).toNat
def crcN : Nat → Int → Int
  | 0, n => n
  | k + 1, n => crcN k (crc1 n)
def crcB (s : Int) (b : UInt8) : Int := crcN 8 (IntKind.u32.wrap (BitVec.ofInt 32 s ^^^ BitVec.ofInt 32 (IntKind.u32.wrap (b.toNat : Nat))).toNat)
def crc (l : List UInt8) : Int := IntKind.u32.wrap (BitVec.ofInt 32 (Int.ofNat 4294967295) ^^^ BitVec.ofInt 32 (l.foldl crcB 4294967295)).toNat
theorem crcN_succ (k : Nat) (n : Int) : crcN (k + 1) n = crc1 (crcN k n) := by
  induction k generalizing n with
  | zero => rfl
  | succ k ih => show crcN (k + 1) (crc1 n) = _; rw [ih]; rfl
def sumB (c : Int) : List UInt8 := [b8 c, b8 (c.fdiv (2 ^ 8)), b8 (c.fdiv (2 ^ 16)), b8 (c.fdiv (2 ^ 24))]
def frameB (s : ByteArray) : List UInt8 := textB s ++ sumB (crc (textB s))
theorem textB_len (s : ByteArray) : (textB s).length = (uintB s.size).length + s.size := by
  unfold textB
  rw [List.length_append]
  rfl
theorem frameB_len (s : ByteArray) : (frameB s).length = (textB s).length + 4 := by simp [frameB, sumB]
end Go.Cd
end

section
set_option linter.unusedVariables false
set_option maxRecDepth 100000
namespace Go.Proofs.YtkhinnchplahlaaGreatDoor
open Go Go.Vc Go.Proofs

theorem vcReady (d : Nat) (h : Heap) (R : Value → Heap → Prop) :
    vcF Tryz.prog Tryz.f62 11 [] [] [.pointer (some ⟨d, 0, none⟩)] h R =
(∃ (b0 : Bool),
 Reads Tryz.prog (eqSem BinOp.eql (25 : Nat) (Operand.tmp (4 : Nat)) (Operand.const (Value.pointer none)) (Value.pointer (some (Addr.mk d (0 : Nat) none))) (Value.pointer none)) h (Value.bool b0) ∧
 br b0 (R (Value.int IntKind.i64 (2 : Int)) h)
 (∃ (p1 : Addr),
 some (Addr.mk d (0 : Nat) none) = some p1 ∧
 ∃ (b2 : Bool),
 Reads Tryz.prog (Instr.loadAt (4 : Nat) (Value.pointer (some (p1.add (6 : Nat))))) h (Value.bool b2) ∧
 br b2 (R (Value.int IntKind.i64 (8 : Int)) h) (R (Value.int IntKind.i64 (0 : Int)) h))) := by kernel_rfl

theorem vcAct (d : Nat) (h : Heap) (R : Value → Heap → Prop) :
    vcF Tryz.prog Tryz.f129 27 [] [] [.pointer (some ⟨d, 0, none⟩)] h R =
(∃ (p0 : Addr),
 some (Addr.mk d (0 : Nat) none) = some p0 ∧
 ∃ (n1 : Int),
 Reads Tryz.prog (Instr.loadAt (3 : Nat) (Value.pointer (some (p0.add (7 : Nat))))) h (Value.int IntKind.i64 n1) ∧
 ∃ (p2 : Addr),
 some (Addr.mk d (0 : Nat) none) = some p2 ∧
 SVC Tryz.prog (Instr.storeAt (3 : Nat) (Value.pointer (some (p2.add (7 : Nat)))) (Value.int IntKind.i64 (IntKind.i64.wrap (n1 + (1 : Int))))) h fun (x3 : Unit) (h4 : Heap) =>
 ∃ (p5 : Addr),
 some (Addr.mk d (0 : Nat) none) = some p5 ∧
 ∃ (n6 : Int),
 Reads Tryz.prog (Instr.loadAt (3 : Nat) (Value.pointer (some (p5.add (8 : Nat))))) h4 (Value.int IntKind.i64 n6) ∧
 br (decide (n6 > (0 : Int)))
 (∃ (p7 : Addr),
 some (Addr.mk d (0 : Nat) none) = some p7 ∧
 ∃ (n8 : Int),
 Reads Tryz.prog (Instr.loadAt (3 : Nat) (Value.pointer (some (p7.add (8 : Nat))))) h4 (Value.int IntKind.i64 n8) ∧
 ∃ (p9 : Addr),
 some (Addr.mk d (0 : Nat) none) = some p9 ∧
 SVC Tryz.prog (Instr.storeAt (3 : Nat) (Value.pointer (some (p9.add (8 : Nat)))) (Value.int IntKind.i64 (IntKind.i64.wrap (n8 - (1 : Int))))) h4
 fun (x10 : Unit) (h11 : Heap) =>
 ∃ (p12 : Addr),
 some (Addr.mk d (0 : Nat) none) = some p12 ∧
 ∃ (n13 : Int),
 Reads Tryz.prog (Instr.loadAt (3 : Nat) (Value.pointer (some (p12.add (8 : Nat))))) h11 (Value.int IntKind.i64 n13) ∧ R (Value.bool (n13 == (0 : Int))) h11)
 (R (Value.bool false) h4)) := by kernel_rfl

theorem vcFree (d : Nat) (h : Heap) (R : Value → Heap → Prop) :
    vcF Tryz.prog Tryz.f92 26 [] [] [.pointer (some ⟨d, 0, none⟩)] h R =
(∃ (b0 : Bool),
 Reads Tryz.prog (eqSem BinOp.eql (25 : Nat) (Operand.tmp (6 : Nat)) (Operand.const (Value.pointer none)) (Value.pointer (some (Addr.mk d (0 : Nat) none))) (Value.pointer none)) h (Value.bool b0) ∧
 br b0 (R (Value.int IntKind.i64 (0 : Int)) h)
 (∃ (p1 : Addr),
 some (Addr.mk d (0 : Nat) none) = some p1 ∧
 ∃ (n2 : Int),
 Reads Tryz.prog (Instr.loadAt (3 : Nat) (Value.pointer (some (p1.add (5 : Nat))))) h (Value.int IntKind.i64 n2) ∧
 ∃ (p3 : Addr),
 some (Addr.mk d (0 : Nat) none) = some p3 ∧
 ∃ (a4 : Option Nat),
 Reads Tryz.prog (Instr.loadAt (70 : Nat) (Value.pointer (some p3))) h (Value.map a4) ∧
 SVC Tryz.prog (Instr.range (70 : Nat) (Value.map a4)) h fun (v5 : Value) (h6 : Heap) =>
 ∃ (a7 : Option Addr),
 v5 = Value.pointer a7 ∧
 ∃ (I8 : Int → Heap → Prop),
 ∃ (I9 : Int → Heap → Nat),
 I8 n2 h6 ∧
 ∀ (n10 : Int) (h11 : Heap),
 I8 n10 h11 →
 SVC Tryz.prog (Instr.next (Value.pointer a7) false (0 : Nat)) h11 fun (v12 : Value) (h13 : Heap) =>
 v12 = Value.tuple (Array.mk [Value.bool false]) ∧ R (Value.int IntKind.i64 n10) h13 ∨
 ∃ (v14 : Value),
 ∃ (v15 : Value),
 v12 = Value.tuple (Array.mk [Value.bool true, v14, v15]) ∧
 ∃ (v16 : Value),
 ∃ (n17 : Int),
 Reads Tryz.prog (Instr.entry (Value.pointer a7)) h13 (Value.tuple (Array.mk [v16, Value.int IntKind.i64 n17])) ∧
 I8 (IntKind.i64.wrap (n10 - n17)) h13 ∧ I9 (IntKind.i64.wrap (n10 - n17)) h13 < I9 n10 h11)) := by kernel_rfl

theorem vcSet (c p : Nat) (s : ByteArray) (i : Int) (pg : Array Value) (h : Heap) (R : Value → Heap → Prop) :
    vcF Tryz.prog Tryz.f63 23 [] [] [.agg #[.map (some c), .map (some p)], .agg #[.string s, .int .i64 i], .agg pg] h R =
(∃ (a0 : Option Nat),
 Reads Tryz.prog (Instr.loadAt (71 : Nat) (Value.pointer (some ((Addr.mk (Array.size h) (0 : Nat) none).add (1 : Nat)))))
 (((Array.push h (Obj.cells (Array.mk [Value.map (some c), Value.map (some p)]) (73 : Nat))).push (Obj.cells (Array.mk [Value.string s, Value.int IntKind.i64 i]) (124 : Nat))).push
 (Obj.cells pg (126 : Nat)))
 (Value.map a0) ∧
 ∃ (s1 : ByteArray),
 ∃ (n2 : Int),
 Reads Tryz.prog (Instr.loadAt (124 : Nat) (Value.pointer (some (Addr.mk (Array.push h (Obj.cells (Array.mk [Value.map (some c), Value.map (some p)]) (73 : Nat))).size (0 : Nat) none))))
 (((Array.push h (Obj.cells (Array.mk [Value.map (some c), Value.map (some p)]) (73 : Nat))).push (Obj.cells (Array.mk [Value.string s, Value.int IntKind.i64 i]) (124 : Nat))).push
 (Obj.cells pg (126 : Nat)))
 (Value.agg (Array.mk [Value.string s1, Value.int IntKind.i64 n2])) ∧
 ∃ (h3 : Array Value),
 Reads Tryz.prog
 (Instr.loadAt (126 : Nat)
 (Value.pointer
 (some
 (Addr.mk
 ((Array.push h (Obj.cells (Array.mk [Value.map (some c), Value.map (some p)]) (73 : Nat))).push
 (Obj.cells (Array.mk [Value.string s, Value.int IntKind.i64 i]) (124 : Nat))).size
 (0 : Nat) none))))
 (((Array.push h (Obj.cells (Array.mk [Value.map (some c), Value.map (some p)]) (73 : Nat))).push (Obj.cells (Array.mk [Value.string s, Value.int IntKind.i64 i]) (124 : Nat))).push
 (Obj.cells pg (126 : Nat)))
 (Value.agg h3) ∧
 SVC Tryz.prog (Instr.mapUpdate (71 : Nat) (Value.map a0) (Value.agg (Array.mk [Value.string s1, Value.int IntKind.i64 n2])) (Value.agg h3))
 (((Array.push h (Obj.cells (Array.mk [Value.map (some c), Value.map (some p)]) (73 : Nat))).push (Obj.cells (Array.mk [Value.string s, Value.int IntKind.i64 i]) (124 : Nat))).push
 (Obj.cells pg (126 : Nat)))
 fun (x4 : Unit) (h5 : Heap) =>
 ∃ (a6 : Option Nat),
 Reads Tryz.prog (Instr.loadAt (70 : Nat) (Value.pointer (some (Addr.mk (Array.size h) (0 : Nat) none)))) h5 (Value.map a6) ∧
 ∃ (s7 : ByteArray),
 Reads Tryz.prog
 (Instr.loadAt (9 : Nat) (Value.pointer (some (Addr.mk (Array.push h (Obj.cells (Array.mk [Value.map (some c), Value.map (some p)]) (73 : Nat))).size (0 : Nat) none)))) h5
 (Value.string s7) ∧
 ∃ (a8 : Option Nat),
 Reads Tryz.prog (Instr.loadAt (70 : Nat) (Value.pointer (some (Addr.mk (Array.size h) (0 : Nat) none)))) h5 (Value.map a8) ∧
 ∃ (s9 : ByteArray),
 Reads Tryz.prog
 (Instr.loadAt (9 : Nat)
 (Value.pointer (some (Addr.mk (Array.push h (Obj.cells (Array.mk [Value.map (some c), Value.map (some p)]) (73 : Nat))).size (0 : Nat) none))))
 h5 (Value.string s9) ∧
 ∃ (n10 : Int),
 Reads Tryz.prog (Instr.lookup (70 : Nat) (Value.map a8) (Value.string s9) false) h5 (Value.int IntKind.i64 n10) ∧
 ∃ (n11 : Int),
 Reads Tryz.prog
 (Instr.loadAt (3 : Nat)
 (Value.pointer
 (some ((Addr.mk (Array.push h (Obj.cells (Array.mk [Value.map (some c), Value.map (some p)]) (73 : Nat))).size (0 : Nat) none).add (1 : Nat)))))
 h5 (Value.int IntKind.i64 n11) ∧
 ∃ (n12 : Int),
 Reads Tryz.prog
 (Builtin.max_ (Array.mk [(3 : Nat), (3 : Nat)]) (3 : Nat)
 (Array.mk [Value.int IntKind.i64 n10, Value.int IntKind.i64 (IntKind.i64.wrap (n11 + (1 : Int)))]))
 h5 (Value.int IntKind.i64 n12) ∧
 SVC Tryz.prog (Instr.mapUpdate (70 : Nat) (Value.map a6) (Value.string s7) (Value.int IntKind.i64 n12)) h5 fun (x13 : Unit) (h14 : Heap) =>
 R (Value.tuple (Array.mk [])) h14) := by kernel_rfl

theorem vcClone (c p : Nat) (h : Heap) (R : Value → Heap → Prop) :
    vcF Tryz.prog Tryz.f33 10 [] [] [.agg #[.map (some c), .map (some p)]] h R =
(∃ (I0 : Heap → Prop),
 I0 ((Array.push h (Obj.cells (Array.mk [Value.map (some c), Value.map (some p)]) (73 : Nat))).push (Obj.cells (Array.mk [Value.map none, Value.map none]) (73 : Nat))) ∧
 ∃ (a1 : Option Nat),
 Reads Tryz.prog (Instr.loadAt (70 : Nat) (Value.pointer (some (Addr.mk (Array.size h) (0 : Nat) none))))
 ((Array.push h (Obj.cells (Array.mk [Value.map (some c), Value.map (some p)]) (73 : Nat))).push (Obj.cells (Array.mk [Value.map none, Value.map none]) (73 : Nat))) (Value.map a1) ∧
 HC Tryz.prog (64 : Nat) (Array.mk [Value.map a1])
 ((Array.push h (Obj.cells (Array.mk [Value.map (some c), Value.map (some p)]) (73 : Nat))).push (Obj.cells (Array.mk [Value.map none, Value.map none]) (73 : Nat)))
 fun (v2 : Value) (h3 : Heap) =>
 ∃ (a4 : Option Nat),
 v2 = Value.map a4 ∧
 I0 h3 ∧
 ∃ (a5 : Option Nat),
 (∀ (h6 : Heap), I0 h6 → Reads Tryz.prog (Instr.loadAt (71 : Nat) (Value.pointer (some ((Addr.mk (Array.size h) (0 : Nat) none).add (1 : Nat))))) h6 (Value.map a5)) ∧
 HC Tryz.prog (65 : Nat) (Array.mk [Value.map a5]) h3 fun (v7 : Value) (h8 : Heap) =>
 ∃ (a9 : Option Nat),
 v7 = Value.map a9 ∧
 SVC Tryz.prog
 (Instr.storeAt (73 : Nat) (Value.pointer (some (Addr.mk (Array.push h (Obj.cells (Array.mk [Value.map (some c), Value.map (some p)]) (73 : Nat))).size (0 : Nat) none)))
 (Value.agg (Array.mk [Value.map a4, Value.map a9])))
 h8 fun (x10 : Unit) (h11 : Heap) =>
 ∃ (a12 : Option Nat),
 ∃ (a13 : Option Nat),
 Reads Tryz.prog (loadVar (73 : Nat) (Addr.mk (Array.push h (Obj.cells (Array.mk [Value.map (some c), Value.map (some p)]) (73 : Nat))).size (0 : Nat) none)) h11
 (Value.agg (Array.mk [Value.map a12, Value.map a13])) ∧
 R (Value.agg (Array.mk [Value.map a12, Value.map a13])) h11) := by kernel_rfl

theorem vcCutS (c p : Nat) (s : ByteArray) (n : Int) (h : Heap) (R : Value → Heap → Prop) :
    vcF Tryz.prog Tryz.f122 30 [] [] [.agg #[.map (some c), .map (some p)], .string s, .int .i64 n] h R =
(∃ (I0 : Int → Heap → Prop),
 ∃ (I1 : Int → Heap → Nat),
 I0 n (Array.push h (Obj.cells (Array.mk [Value.map (some c), Value.map (some p)]) (73 : Nat))) ∧
 ∀ (n2 : Int) (h3 : Heap),
 I0 n2 h3 →
 ∃ (a4 : Option Nat),
 Reads Tryz.prog (Instr.loadAt (70 : Nat) (Value.pointer (some (Addr.mk (Array.size h) (0 : Nat) none)))) h3 (Value.map a4) ∧
 ∃ (n5 : Int),
 Reads Tryz.prog (Instr.lookup (70 : Nat) (Value.map a4) (Value.string s) false) h3 (Value.int IntKind.i64 n5) ∧
 br (decide (n2 < n5))
 (∃ (a6 : Option Nat),
 Reads Tryz.prog (Instr.loadAt (71 : Nat) (Value.pointer (some ((Addr.mk (Array.size h) (0 : Nat) none).add (1 : Nat))))) h3 (Value.map a6) ∧
 SVC Tryz.prog (Builtin.delete_ (Array.mk [(71 : Nat), (124 : Nat)]) (0 : Nat) (Array.mk [Value.map a6, Value.agg (Array.mk [Value.string s, Value.int IntKind.i64 n2])])) h3
 fun (v7 : Value) (h8 : Heap) => v7 = Value.tuple (Array.mk []) ∧ I0 (IntKind.i64.wrap (n2 + (1 : Int))) h8 ∧ I1 (IntKind.i64.wrap (n2 + (1 : Int))) h8 < I1 n2 h3)
 (∃ (a9 : Option Nat),
 Reads Tryz.prog (Instr.loadAt (70 : Nat) (Value.pointer (some (Addr.mk (Array.size h) (0 : Nat) none)))) h3 (Value.map a9) ∧
 ∃ (a10 : Option Nat),
 Reads Tryz.prog (Instr.loadAt (70 : Nat) (Value.pointer (some (Addr.mk (Array.size h) (0 : Nat) none)))) h3 (Value.map a10) ∧
 ∃ (n11 : Int),
 Reads Tryz.prog (Instr.lookup (70 : Nat) (Value.map a10) (Value.string s) false) h3 (Value.int IntKind.i64 n11) ∧
 ∃ (n12 : Int),
 Reads Tryz.prog (Builtin.min_ (Array.mk [(3 : Nat), (3 : Nat)]) (3 : Nat) (Array.mk [Value.int IntKind.i64 n11, Value.int IntKind.i64 n])) h3
 (Value.int IntKind.i64 n12) ∧
 SVC Tryz.prog (Instr.mapUpdate (70 : Nat) (Value.map a9) (Value.string s) (Value.int IntKind.i64 n12)) h3 fun (x13 : Unit) (h14 : Heap) =>
 R (Value.tuple (Array.mk [])) h14)) := by kernel_rfl

theorem vcMove (c p : Nat) (a b : ByteArray) (h : Heap) (R : Value → Heap → Prop) :
    vcF Tryz.prog Tryz.f168 51 [] [] [.agg #[.map (some c), .map (some p)], .string a, .string b] h R =
(∃ (a0 : Option Nat),
 ∃ (a1 : Option Nat),
 Reads Tryz.prog (Instr.loadAt (73 : Nat) (Value.pointer (some (Addr.mk (Array.size h) (0 : Nat) none)))) (Array.push h (Obj.cells (Array.mk [Value.map (some c), Value.map (some p)]) (73 : Nat)))
 (Value.agg (Array.mk [Value.map a0, Value.map a1])) ∧
 HC Tryz.prog (122 : Nat) (Array.mk [Value.agg (Array.mk [Value.map a0, Value.map a1]), Value.string b, Value.int IntKind.i64 (0 : Int)])
 (Array.push h (Obj.cells (Array.mk [Value.map (some c), Value.map (some p)]) (73 : Nat))) fun (v2 : Value) (h3 : Heap) =>
 v2 = Value.tuple (Array.mk []) ∧
 ∃ (a4 : Option Nat),
 Reads Tryz.prog (Instr.loadAt (70 : Nat) (Value.pointer (some (Addr.mk (Array.size h) (0 : Nat) none)))) h3 (Value.map a4) ∧
 ∃ (n5 : Int),
 Reads Tryz.prog (Instr.lookup (70 : Nat) (Value.map a4) (Value.string a) false) h3 (Value.int IntKind.i64 n5) ∧
 ∃ (I6 : Int → Heap → Prop),
 ∃ (I7 : Int → Heap → Nat),
 I6 (0 : Int) h3 ∧
 ∀ (n8 : Int) (h9 : Heap),
 I6 n8 h9 →
 br (decide (n8 < n5))
 (∃ (a10 : Option Nat),
 Reads Tryz.prog (Instr.loadAt (71 : Nat) (Value.pointer (some ((Addr.mk (Array.size h) (0 : Nat) none).add (1 : Nat))))) h9 (Value.map a10) ∧
 ∃ (h11 : Array Value),
 ∃ (b12 : Bool),
 Reads Tryz.prog (Instr.lookup (71 : Nat) (Value.map a10) (Value.agg (Array.mk [Value.string a, Value.int IntKind.i64 n8])) true) h9
 (Value.tuple (Array.mk [Value.agg h11, Value.bool b12])) ∧
 ∃ (h13 : Array Value),
 IsZ Tryz.prog (126 : Nat) h13 ∧
 SVC Tryz.prog (Instr.storeAt (126 : Nat) (Value.pointer (some (Addr.mk (Array.size h9) (0 : Nat) none))) (Value.agg h11))
 (Array.push h9 (Obj.cells h13 (126 : Nat))) fun (x14 : Unit) (h15 : Heap) =>
 br b12
 (∃ (a16 : Option Nat),
 Reads Tryz.prog (Instr.loadAt (71 : Nat) (Value.pointer (some ((Addr.mk (Array.size h) (0 : Nat) none).add (1 : Nat))))) h15 (Value.map a16) ∧
 ∃ (h17 : Array Value),
 Reads Tryz.prog (Instr.loadAt (126 : Nat) (Value.pointer (some (Addr.mk (Array.size h9) (0 : Nat) none)))) h15 (Value.agg h17) ∧
 SVC Tryz.prog (Instr.mapUpdate (71 : Nat) (Value.map a16) (Value.agg (Array.mk [Value.string b, Value.int IntKind.i64 n8])) (Value.agg h17)) h15
 fun (x18 : Unit) (h19 : Heap) =>
 ∃ (a20 : Option Nat),
 Reads Tryz.prog (Instr.loadAt (71 : Nat) (Value.pointer (some ((Addr.mk (Array.size h) (0 : Nat) none).add (1 : Nat))))) h19
 (Value.map a20) ∧
 SVC Tryz.prog
 (Builtin.delete_ (Array.mk [(71 : Nat), (124 : Nat)]) (0 : Nat)
 (Array.mk [Value.map a20, Value.agg (Array.mk [Value.string a, Value.int IntKind.i64 n8])]))
 h19 fun (v21 : Value) (h22 : Heap) =>
 v21 = Value.tuple (Array.mk []) ∧ I6 (IntKind.i64.wrap (n8 + (1 : Int))) h22 ∧ I7 (IntKind.i64.wrap (n8 + (1 : Int))) h22 < I7 n8 h9)
 (I6 (IntKind.i64.wrap (n8 + (1 : Int))) h15 ∧ I7 (IntKind.i64.wrap (n8 + (1 : Int))) h15 < I7 n8 h9))
 (∃ (a23 : Option Nat),
 Reads Tryz.prog (Instr.loadAt (70 : Nat) (Value.pointer (some (Addr.mk (Array.size h) (0 : Nat) none)))) h9 (Value.map a23) ∧
 ∃ (a24 : Option Nat),
 Reads Tryz.prog (Instr.loadAt (70 : Nat) (Value.pointer (some (Addr.mk (Array.size h) (0 : Nat) none)))) h9 (Value.map a24) ∧
 ∃ (n25 : Int),
 Reads Tryz.prog (Instr.lookup (70 : Nat) (Value.map a24) (Value.string a) false) h9 (Value.int IntKind.i64 n25) ∧
 SVC Tryz.prog (Instr.mapUpdate (70 : Nat) (Value.map a23) (Value.string b) (Value.int IntKind.i64 n25)) h9 fun (x26 : Unit) (h27 : Heap) =>
 ∃ (a28 : Option Nat),
 Reads Tryz.prog (Instr.loadAt (70 : Nat) (Value.pointer (some (Addr.mk (Array.size h) (0 : Nat) none)))) h27 (Value.map a28) ∧
 SVC Tryz.prog (Builtin.delete_ (Array.mk [(70 : Nat), (9 : Nat)]) (0 : Nat) (Array.mk [Value.map a28, Value.string a])) h27
 fun (v29 : Value) (h30 : Heap) => v29 = Value.tuple (Array.mk []) ∧ R (Value.tuple (Array.mk [])) h30)) := by kernel_rfl

theorem vcNew (room : Int) (h : Heap) (R : Value → Heap → Prop) :
    vcF Tryz.prog Tryz.f10 15 [] [] [.int .i64 room] h R =
(SVC Tryz.prog
 (Instr.storeAt (73 : Nat) (Value.pointer (some (Addr.mk ((Array.push h (Obj.map (Array.mk []) (0 : Nat))).push (Obj.map (Array.mk []) (0 : Nat))).size (0 : Nat) none)))
 (Value.agg (Array.mk [Value.map (some (Array.size h)), Value.map (some (Array.push h (Obj.map (Array.mk []) (0 : Nat))).size)])))
 (((Array.push h (Obj.map (Array.mk []) (0 : Nat))).push (Obj.map (Array.mk []) (0 : Nat))).push (Obj.cells (Array.mk [Value.map none, Value.map none]) (73 : Nat))) fun (x0 : Unit) (h1 : Heap) =>
 ∃ (I2 : Heap → Prop),
 I2 h1 ∧
 ∃ (a3 : Option Nat),
 ∃ (a4 : Option Nat),
 (∀ (h5 : Heap),
 I2 h5 →
 Reads Tryz.prog (Instr.loadAt (73 : Nat) (Value.pointer (some (Addr.mk ((Array.push h (Obj.map (Array.mk []) (0 : Nat))).push (Obj.map (Array.mk []) (0 : Nat))).size (0 : Nat) none))))
 h5 (Value.agg (Array.mk [Value.map a3, Value.map a4]))) ∧
 ∃ (a6 : Option Nat),
 ∃ (a7 : Option Nat),
 Reads Tryz.prog (Instr.loadAt (73 : Nat) (Value.pointer (some (Addr.mk ((Array.push h (Obj.map (Array.mk []) (0 : Nat))).push (Obj.map (Array.mk []) (0 : Nat))).size (0 : Nat) none))))
 h1 (Value.agg (Array.mk [Value.map a6, Value.map a7])) ∧
 HC Tryz.prog (33 : Nat) (Array.mk [Value.agg (Array.mk [Value.map a6, Value.map a7])]) h1 fun (v8 : Value) (h9 : Heap) =>
 ∃ (a10 : Option Nat),
 ∃ (a11 : Option Nat),
 v8 = Value.agg (Array.mk [Value.map a10, Value.map a11]) ∧
 I2 h9 ∧
 ∃ (n12 : Int),
 (∀ (h13 : Heap),
 I2 h13 →
 Reads Tryz.prog (Builtin.max_ (Array.mk [(3 : Nat), (3 : Nat)]) (3 : Nat) (Array.mk [Value.int IntKind.i64 room, Value.int IntKind.i64 (0 : Int)])) h13
 (Value.int IntKind.i64 n12)) ∧
 ∃ (n14 : Int),
 (∀ (h15 : Heap),
 I2 h15 →
 Reads Tryz.prog (Builtin.min_ (Array.mk [(3 : Nat), (3 : Nat)]) (3 : Nat) (Array.mk [Value.int IntKind.i64 n12, Value.int IntKind.i64 (4096 : Int)])) h15
 (Value.int IntKind.i64 n14)) ∧
 R (Value.pointer (some (Addr.mk (Array.size h9) (0 : Nat) none)))
 (Array.push h9
 (Obj.cells
 (Array.mk
 [Value.map a3, Value.map a4, Value.map a10, Value.map a11, Value.slice none (0 : Nat) (0 : Nat), Value.int IntKind.i64 n14, Value.bool false,
 Value.int IntKind.i64 (0 : Int), Value.int IntKind.i64 (0 : Int), Value.int IntKind.u64 (0 : Int)])
 (77 : Nat)))) := by kernel_rfl

theorem vcWrite (d : Nat) (s : ByteArray) (i : Int) (A : Option Addr) (n c : Nat) (h : Heap) (R : Value → Heap → Prop) :
    vcF Tryz.prog Tryz.f81 82 [11] [] [.pointer (some ⟨d, 0, none⟩), .string s, .int .i64 i, .slice A n c] h R =
(HC Tryz.prog (62 : Nat) (Array.mk [Value.pointer (some (Addr.mk d (0 : Nat) none))]) h fun (v0 : Value) (h1 : Heap) =>
 ∃ (n2 : Int),
 v0 = Value.int IntKind.i64 n2 ∧
 br (n2 != (0 : Int)) (R (Value.int IntKind.i64 n2) h1)
 (∃ (p3 : Addr),
 some (Addr.mk d (0 : Nat) none) = some p3 ∧
 ∃ (a4 : Option Nat),
 Reads Tryz.prog (Instr.loadAt (70 : Nat) (Value.pointer (some p3))) h1 (Value.map a4) ∧
 ∃ (n5 : Int),
 Reads Tryz.prog (Instr.lookup (70 : Nat) (Value.map a4) (Value.string s) false) h1 (Value.int IntKind.i64 n5) ∧
 ∃ (I6 : Int → Heap → Prop),
 br (decide ((↑n : Int) > (512 : Int))) (R (Value.int IntKind.i64 (3 : Int)) h1)
 (br (decide (i < (0 : Int)) || decide (i > n5)) (R (Value.int IntKind.i64 (1 : Int)) h1)
 (br (decide (i = n5))
 (HC Tryz.prog (92 : Nat) (Array.mk [Value.pointer (some (Addr.mk d (0 : Nat) none))]) h1 fun (v7 : Value) (h8 : Heap) =>
 ∃ (n9 : Int), v7 = Value.int IntKind.i64 n9 ∧ br (decide (n9 < (1 : Int))) (R (Value.int IntKind.i64 (7 : Int)) h8) (I6 (0 : Int) h8))
 (I6 (0 : Int) h1))) ∧
 ∀ (n10 : Int) (h11 : Heap),
 I6 n10 h11 →
 HC Tryz.prog (129 : Nat) (Array.mk [Value.pointer (some (Addr.mk d (0 : Nat) none))]) h11 fun (v12 : Value) (h13 : Heap) =>
 ∃ (b14 : Bool),
 v12 = Value.bool b14 ∧
 ∃ (h15 : Array Value),
 Blt Tryz.prog (128 : Nat) [((0 : Nat), Value.agg (Array.mk [Value.string s, Value.int IntKind.i64 i]))] h15 ∧
 ∃ (h16 : Array Value),
 IsZ Tryz.prog (128 : Nat) h16 ∧
 SVC Tryz.prog (Instr.storeAt (128 : Nat) (Value.pointer (some (Addr.mk (Array.size h13) (0 : Nat) none))) (Value.agg h15))
 (Array.push h13 (Obj.cells h16 (128 : Nat))) fun (x17 : Unit) (h18 : Heap) =>
 ((0 : Int) ≤ (0 : Int) ∧ (0 : Int) ≤ (↑(512 : Nat) : Int) ∧ (↑(512 : Nat) : Int) ≤ (↑(512 : Nat) : Int) ∧ (↑(512 : Nat) : Int) ≤ (↑(512 : Nat) : Int)) ∧
 SVC Tryz.prog
 (Builtin.copy_ (Array.mk [(146 : Nat), (146 : Nat)]) (3 : Nat)
 (Array.mk
 [Value.slice (subA (some ((Addr.mk (Array.size h13) (0 : Nat) none).add (2 : Nat))) (0 : Nat) (512 : Nat) (1 : Nat)) (512 : Nat) (512 : Nat),
 Value.slice A n c]))
 h18 fun (v19 : Value) (h20 : Heap) =>
 ∃ (n21 : Int),
 v19 = Value.int IntKind.i64 n21 ∧
 ∃ (p22 : Addr),
 some (Addr.mk d (0 : Nat) none) = some p22 ∧
 ∃ (a23 : Option Nat),
 ∃ (a24 : Option Nat),
 Reads Tryz.prog (Instr.loadAt (73 : Nat) (Value.pointer (some p22))) h20 (Value.agg (Array.mk [Value.map a23, Value.map a24])) ∧
 ∃ (s25 : ByteArray),
 ∃ (n26 : Int),
 Reads Tryz.prog (Instr.loadAt (124 : Nat) (Value.pointer (some (Addr.mk (Array.size h13) (0 : Nat) none)))) h20
 (Value.agg (Array.mk [Value.string s25, Value.int IntKind.i64 n26])) ∧
 ∃ (h27 : Array Value),
 Reads Tryz.prog (Instr.loadAt (126 : Nat) (Value.pointer (some ((Addr.mk (Array.size h13) (0 : Nat) none).add (2 : Nat))))) h20
 (Value.agg h27) ∧
 HC Tryz.prog (63 : Nat)
 (Array.mk
 [Value.agg (Array.mk [Value.map a23, Value.map a24]), Value.agg (Array.mk [Value.string s25, Value.int IntKind.i64 n26]),
 Value.agg h27])
 h20 fun (v28 : Value) (h29 : Heap) =>
 v28 = Value.tuple (Array.mk []) ∧
 ∃ (I30 : Heap → Prop),
 I30 h29 ∧
 ∃ (p31 : Addr),
 some (Addr.mk d (0 : Nat) none) = some p31 ∧
 ∃ (a32 : Option Addr),
 ∃ (k33 : Nat),
 ∃ (k34 : Nat),
 (∀ (h35 : Heap),
 I30 h35 →
 Reads Tryz.prog (Instr.loadAt (75 : Nat) (Value.pointer (some (p31.add (4 : Nat))))) h35
 (Value.slice a32 k33 k34)) ∧
 ∃ (h36 : Array Value),
 Reads Tryz.prog
 (Instr.loadAt (128 : Nat) (Value.pointer (some (Addr.mk (Array.size h13) (0 : Nat) none)))) h29
 (Value.agg h36) ∧
 SVC Tryz.prog (Instr.buildSlice (75 : Nat) (1 : Nat) (Array.mk [((0 : Nat), Value.agg h36)])) h29
 fun (v37 : Value) (h38 : Heap) =>
 ∃ (a39 : Option Addr),
 ∃ (k40 : Nat),
 ∃ (k41 : Nat),
 v37 = Value.slice a39 k40 k41 ∧
 I30 h38 ∧
 SVC Tryz.prog
 (Builtin.append_ (Array.mk [(75 : Nat), (75 : Nat)]) (75 : Nat)
 (Array.mk [Value.slice a32 k33 k34, Value.slice a39 k40 k41]))
 h38 fun (v42 : Value) (h43 : Heap) =>
 ∃ (a44 : Option Addr),
 ∃ (k45 : Nat),
 ∃ (k46 : Nat),
 v42 = Value.slice a44 k45 k46 ∧
 ∃ (p47 : Addr),
 some (Addr.mk d (0 : Nat) none) = some p47 ∧
 SVC Tryz.prog
 (Instr.storeAt (75 : Nat) (Value.pointer (some (p47.add (4 : Nat))))
 (Value.slice a44 k45 k46))
 h43 fun (x48 : Unit) (h49 : Heap) =>
 br b14
 (∃ (p50 : Addr),
 some (Addr.mk d (0 : Nat) none) = some p50 ∧
 ∃ (n51 : Int),
 Reads Tryz.prog
 (Instr.loadAt (33 : Nat)
 (Value.pointer (some (p50.add (9 : Nat)))))
 h49 (Value.int IntKind.u64 n51) ∧
 HC Tryz.prog (31 : Nat)
 (Array.mk
 [Value.pointer (some (Addr.mk d (0 : Nat) none)),
 Value.int IntKind.u64 n51])
 h49 fun (v52 : Value) (h53 : Heap) =>
 v52 = Value.tuple (Array.mk []) ∧
 R (Value.int IntKind.i64 (8 : Int)) h53)
 (R (Value.int IntKind.i64 (0 : Int)) h49))) := by kernel_rfl

theorem vcRead (d : Nat) (s : ByteArray) (i : Int) (h : Heap) (R : Value → Heap → Prop) :
    vcF Tryz.prog Tryz.f77 38 [] [] [.pointer (some ⟨d, 0, none⟩), .string s, .int .i64 i] h R =
(HC Tryz.prog (62 : Nat) (Array.mk [Value.pointer (some (Addr.mk d (0 : Nat) none))]) h fun (v0 : Value) (h1 : Heap) =>
 ∃ (n2 : Int),
 v0 = Value.int IntKind.i64 n2 ∧
 br (n2 != (0 : Int)) (R (Value.tuple (Array.mk [Value.slice none (0 : Nat) (0 : Nat), Value.int IntKind.i64 n2])) h1)
 (∃ (p3 : Addr),
 ((!decide (i < (0 : Int))) = true → some (Addr.mk d (0 : Nat) none) = some p3) ∧
 ∃ (a4 : Option Nat),
 ((!decide (i < (0 : Int))) = true → Reads Tryz.prog (Instr.loadAt (70 : Nat) (Value.pointer (some p3))) h1 (Value.map a4)) ∧
 ∃ (n5 : Int),
 ((!decide (i < (0 : Int))) = true → Reads Tryz.prog (Instr.lookup (70 : Nat) (Value.map a4) (Value.string s) false) h1 (Value.int IntKind.i64 n5)) ∧
 br (decide (i < (0 : Int)) || decide (i ≥ n5)) (R (Value.tuple (Array.mk [Value.slice none (0 : Nat) (0 : Nat), Value.int IntKind.i64 (5 : Int)])) h1)
 (∃ (p6 : Addr),
 some (Addr.mk d (0 : Nat) none) = some p6 ∧
 ∃ (a7 : Option Nat),
 Reads Tryz.prog (Instr.loadAt (71 : Nat) (Value.pointer (some (p6.add (1 : Nat))))) h1 (Value.map a7) ∧
 ∃ (h8 : Array Value),
 Reads Tryz.prog (Instr.lookup (71 : Nat) (Value.map a7) (Value.agg (Array.mk [Value.string s, Value.int IntKind.i64 i])) false) h1 (Value.agg h8) ∧
 ∃ (h9 : Array Value),
 IsZ Tryz.prog (126 : Nat) h9 ∧
 SVC Tryz.prog (Instr.storeAt (126 : Nat) (Value.pointer (some (Addr.mk (Array.size h1) (0 : Nat) none))) (Value.agg h8))
 (Array.push h1 (Obj.cells h9 (126 : Nat))) fun (x10 : Unit) (h11 : Heap) =>
 ((0 : Int) ≤ (0 : Int) ∧ (0 : Int) ≤ (↑(512 : Nat) : Int) ∧ (↑(512 : Nat) : Int) ≤ (↑(512 : Nat) : Int) ∧ (↑(512 : Nat) : Int) ≤ (↑(512 : Nat) : Int)) ∧
 R
 (Value.tuple
 (Array.mk
 [Value.slice (subA (some (Addr.mk (Array.size h1) (0 : Nat) none)) (0 : Nat) (512 : Nat) (1 : Nat)) (512 : Nat) (512 : Nat),
 Value.int IntKind.i64 (0 : Int)]))
 h11))) := by kernel_rfl
end Go.Proofs.YtkhinnchplahlaaGreatDoor
end

section
set_option linter.unusedVariables false
set_option linter.unusedSimpArgs false
set_option maxRecDepth 100000
namespace Go.Proofs.YtkhinnchplahlaaGreatDoor
open Go Go.Vc Go.Proofs Go.Dk

theorem hm : Tryz.prog.follows .mixedOrders = true := by kernel_rfl
theorem undS : Tryz.prog.underlying 9 = some .string := by kernel_rfl
theorem undB : Tryz.prog.underlying 5 = some (.int .u8) := by kernel_rfl
theorem undBs : Tryz.prog.underlying 146 = some (.slice 5) := by kernel_rfl
theorem undD : Tryz.prog.underlying 25 = some (.pointer (Tryz.prog.pointee 25)) := by kernel_rfl
theorem undMc : Tryz.prog.underlying 70 = some (.map 9 3) := by kernel_rfl
theorem undMp : Tryz.prog.underlying 71 = some (.map 124 126) := by kernel_rfl
theorem scS : scT Tryz.prog 9 = true := by kernel_rfl
theorem scI : scT Tryz.prog 3 = true := by kernel_rfl
theorem scB : scT Tryz.prog 4 = true := by kernel_rfl
theorem scU : scT Tryz.prog 33 = true := by kernel_rfl
theorem scMc : scT Tryz.prog 70 = true := by kernel_rfl
theorem scMp : scT Tryz.prog 71 = true := by kernel_rfl
theorem scWs : scT Tryz.prog 75 = true := by kernel_rfl
theorem szI : szOf Tryz.prog 3 = some 1 := by kernel_rfl
theorem szB : szOf Tryz.prog 4 = some 1 := by kernel_rfl
theorem szWs : szOf Tryz.prog 75 = some 1 := by kernel_rfl
theorem agSide : agT Tryz.prog 73 2 = true := by kernel_rfl
theorem agAt : agT Tryz.prog 124 2 = true := by kernel_rfl
theorem agPage : agT Tryz.prog 126 512 = true := by kernel_rfl
theorem agWrite : agT Tryz.prog 128 514 = true := by kernel_rfl
theorem szSide : szOf Tryz.prog 73 = some 2 := by kernel_rfl
theorem szPage : szOf Tryz.prog 126 = some 512 := by kernel_rfl
theorem szWrite : szOf Tryz.prog 128 = some 514 := by kernel_rfl
theorem zI : (Tryz.prog.info? 3).bind (·.zero) = some (.int .i64 0) := by kernel_rfl

/-- a page's cells. -/
def pgC (s : Str) : List Value := (List.range 512).map fun j => .int .u8 ((s.data.getD j 0).toNat : Nat)
theorem pgC_len (s : Str) : (pgC s).length = 512 := by simp [pgC]
def pv (s : Str) : Value := .agg (pgC s).toArray
theorem zP : (Tryz.prog.info? 126).bind (·.zero) = some (pv zp) := by kernel_rfl
theorem zcPage : (zc Tryz.prog 126).size = 512 := by kernel_rfl
theorem zcWrite : (zc Tryz.prog 128).size = 514 := by kernel_rfl

theorem flatAt : Flat Tryz.prog 124 #[(Tryz.prog.fieldsOf 124)[0]!, (Tryz.prog.fieldsOf 124)[1]!] := ⟨by kernel_rfl, by kernel_rfl, by kernel_rfl⟩
def Mc : Mk Tryz.prog 70 9 3 Str Int := strMk Tryz.prog 70 9 3 Int (.int .i64) undMc undS
def Mp : Mk Tryz.prog 71 124 126 (Str × Int) Str :=
  pairMk Tryz.prog 71 124 126 Str pv _ _ undMp flatAt (by decide +kernel) (by decide +kernel) (by kernel_rfl) (by kernel_rfl) (by kernel_rfl) (by kernel_rfl)

/-- the i-th page of a file, with noughts where there is none. -/
def pg (F : Fs) (n : Str) (i : Int) : Str := if 0 ≤ i then (pgs F n).getD i.toNat zp else zp
/-- files, told by two maps. -/
structure Like (F : Fs) (mc : List (Str × Int)) (mp : List ((Str × Int) × Str)) : Prop where
  count : ∀ n, mGet mc n = (mGet F n).map fun l => (l.length : Int)
  page : ∀ n i, (mGet mp (n, i)).getD zp = pg F n i
  there : ∀ n i, (mGet mp (n, i)).isSome = true → 0 ≤ i ∧ i < (pgs F n).length
/-- files on a heap. -/
def SideAt (h : Heap) (c p : Nat) (F : Fs) : Prop := ∃ mc mp, MapAt Mc h c mc ∧ MapAt Mp h p mp ∧ Like F mc mp

theorem SideAt.upd {h h' : Heap} {c p : Nat} {F : Fs} {S : Nat → Prop} (hs : SideAt h c p F) (u : Upd S h h') (hc : ¬ S c) (hp : ¬ S p) : SideAt h' c p F := by
  obtain ⟨mc, mp, h1, h2, h3⟩ := hs
  exact ⟨mc, mp, h1.upd u hc, h2.upd u hp, h3⟩
theorem SideAt.lt {h : Heap} {c p : Nat} {F : Fs} (hs : SideAt h c p F) : c < h.size ∧ p < h.size := by
  obtain ⟨mc, mp, h1, h2, h3⟩ := hs
  exact ⟨h1.lt, h2.lt⟩

/-- a write that isn't safe, in cells. -/
def WtE : Enc Wt := ⟨514, fun w => .string w.n :: .int .i64 w.i :: pgC w.p, fun w => by simp [pgC_len], fun w v hv => by
  simp only [List.mem_cons] at hv
  rcases hv with rfl | rfl | hv
  · exact one_string _
  · exact one_int _ _
  · simp only [pgC, List.mem_map] at hv
    obtain ⟨j, _, rfl⟩ := hv
    exact one_int _ _⟩

def diskC (c1 p1 c2 p2 : Nat) (A : Option Addr) (n c : Nat) (x : D) : List Value :=
  [.map (some c1), .map (some p1), .map (some c2), .map (some p2), .slice A n c, .int .i64 x.room, .bool x.down, .int .i64 x.acts, .int .i64 x.fuse, .int .u64 x.keep]
/-- a disk on a heap, by its blocks. -/
structure DiskP (h : Heap) (d c1 p1 c2 p2 : Nat) (A : Option Addr) (n c : Nat) (x : D) : Prop where
  box : h[d]? = some (.cells (diskC c1 p1 c2 p2 A n c x).toArray 77 (0, 0))
  now : SideAt h c1 p1 x.now
  safe : SideAt h c2 p2 x.safe
  waits : Vc.Own WtE 128 0 h A n c x.waits
  nd : [c1, p1, c2, p2].Nodup
  ok : Ok x

/-- its blocks. -/
def blks (d c1 p1 c2 p2 : Nat) (A : Option Addr) (b : Nat) : Prop := b = d ∨ b = c1 ∨ b = p1 ∨ b = c2 ∨ b = p2 ∨ blk A b
/-- a disk on a heap, all of whose blocks are of O. -/
def DiskAt (h : Heap) (d : Nat) (x : D) (O : Nat → Prop) : Prop :=
  (∀ b, O b → b < h.size) ∧ ∃ c1 p1 c2 p2 A n c, DiskP h d c1 p1 c2 p2 A n c x ∧ ∀ b, blks d c1 p1 c2 p2 A b → O b

section
variable {h h' : Heap} {d c1 p1 c2 p2 : Nat} {A : Option Addr} {n c : Nat} {x : D} {O : Nat → Prop}

theorem DiskP.ne_map (hd : DiskP h d c1 p1 c2 p2 A n c x) : d ≠ c1 ∧ d ≠ p1 ∧ d ≠ c2 ∧ d ≠ p2 := by
  have e := hd.box
  obtain ⟨_, _, ⟨_, _, b1, _⟩, ⟨_, _, b2, _⟩, _⟩ := hd.now
  obtain ⟨_, _, ⟨_, _, b3, _⟩, ⟨_, _, b4, _⟩, _⟩ := hd.safe
  refine ⟨?_, ?_, ?_, ?_⟩ <;> (intro h0; subst h0; simp_all)
theorem DiskP.ne_waits (hd : DiskP h d c1 p1 c2 p2 A n c x) {b : Nat} (hb : blk A b) : b ≠ d ∧ b ≠ c1 ∧ b ≠ p1 ∧ b ≠ c2 ∧ b ≠ p2 := by
  have e := hd.box
  obtain ⟨_, _, ⟨_, _, b1, _⟩, ⟨_, _, b2, _⟩, _⟩ := hd.now
  obtain ⟨_, _, ⟨_, _, b3, _⟩, ⟨_, _, b4, _⟩, _⟩ := hd.safe
  obtain ⟨q, rfl, rfl⟩ := hb
  rcases hd.waits.2.2 with ⟨h0, _⟩ | ⟨b', cells, h0, _, hb', _⟩
  · cases h0
  · cases h0
    refine ⟨?_, ?_, ?_, ?_, ?_⟩ <;> (intro h0; subst h0; simp_all)
theorem DiskP.lt (hd : DiskP h d c1 p1 c2 p2 A n c x) {b : Nat} (hb : blks d c1 p1 c2 p2 A b) : b < h.size := by
  rcases hb with rfl | rfl | rfl | rfl | rfl | hb
  · exact at_lt hd.box
  · exact hd.now.lt.1
  · exact hd.now.lt.2
  · exact hd.safe.lt.1
  · exact hd.safe.lt.2
  · exact (hd.waits.block b hb).2
theorem DiskP.upd {S : Nat → Prop} (hd : DiskP h d c1 p1 c2 p2 A n c x) (u : Upd S h h') (hs : ∀ b, blks d c1 p1 c2 p2 A b → ¬ S b) : DiskP h' d c1 p1 c2 p2 A n c x :=
  ⟨u.at hd.box (hs d (.inl rfl)), hd.now.upd u (hs _ (.inr (.inl rfl))) (hs _ (.inr (.inr (.inl rfl)))), hd.safe.upd u (hs _ (.inr (.inr (.inr (.inl rfl))))) (hs _ (.inr (.inr (.inr (.inr (.inl rfl)))))),
    hd.waits.upd u (fun b hb => hs b (.inr (.inr (.inr (.inr (.inr hb)))))), hd.nd, hd.ok⟩
theorem DiskAt.upd {S : Nat → Prop} (hd : DiskAt h d x O) (u : Upd S h h') (hs : ∀ b, O b → ¬ S b) : DiskAt h' d x O := by
  obtain ⟨hO, c1, p1, c2, p2, A, n, c, hp, hb⟩ := hd
  exact ⟨fun b h0 => Nat.lt_of_lt_of_le (hO b h0) u.size, c1, p1, c2, p2, A, n, c, hp.upd u fun b h0 => hs b (hb b h0), hb⟩
theorem DiskAt.keep (hd : DiskAt h d x O) (k : Keep h.size h h') : DiskAt h' d x O :=
  hd.upd (k.upd fun _ => False) fun _ _ h => h
theorem DiskAt.lt (hd : DiskAt h d x O) {b : Nat} (hb : O b) : b < h.size := hd.1 b hb
theorem DiskAt.ok (hd : DiskAt h d x O) : Ok x := by obtain ⟨_, _, _, _, _, _, _, _, hp, _⟩ := hd; exact hp.ok
theorem DiskAt.box (hd : DiskAt h d x O) : O d := by obtain ⟨_, _, _, _, _, _, _, _, hp, hb⟩ := hd; exact hb d (.inl rfl)

theorem DiskP.rd (hd : DiskP h d c1 p1 c2 p2 A n c x) {k : Nat} {v : Value} (hk : (diskC c1 p1 c2 p2 A n c x)[k]? = some v) : cell h ((⟨d, 0, none⟩ : Addr).add k) = some v :=
  cell_cells hd.box (by simpa using hk)

/-- the box alone is written. -/
theorem DiskP.store {c' : List Value} {A' : Option Addr} {n' m' : Nat} {y : D} (hd : DiskP h d c1 p1 c2 p2 A n c x) (hb : h'[d]? = some (.cells c'.toArray 77 (0, 0))) (hc : c' = diskC c1 p1 c2 p2 A n c y)
    (u : Upd (fun b => b = d) h h') (e1 : y.now = x.now) (e2 : y.safe = x.safe) (e3 : y.waits = x.waits) (ok : Ok y) : DiskP h' d c1 p1 c2 p2 A n c y := by
  obtain ⟨q1, q2, q3, q4⟩ := hd.ne_map
  refine ⟨by rw [hb, hc], by rw [e1]; exact hd.now.upd u (Ne.symm q1) (Ne.symm q2), by rw [e2]; exact hd.safe.upd u (Ne.symm q3) (Ne.symm q4), by rw [e3]; exact hd.waits.upd u fun b hb => (hd.ne_waits hb).1, hd.nd, ok⟩
end

theorem ready_spec {h : Heap} {d : Nat} {x : D} {O : Nat → Prop} (hd : DiskAt h d x O) :
    HC Tryz.prog 62 #[.pointer (some ⟨d, 0, none⟩)] h fun v h' => h' = h ∧ v = .int .i64 (if x.down then 8 else 0) := by
  obtain ⟨hO, c1, p1, c2, p2, A, n, c, hp, hb⟩ := hd
  refine HC_of_vc (args := [.pointer (some ⟨d, 0, none⟩)]) (base := 11) (cuts := []) (bigs := []) hm Tryz.func62 ?_
  rw [vcReady]
  refine ⟨_, reads_eql_nil undD, br_intro (fun e => by cases e) fun _ => ⟨_, rfl, x.down, reads_load scB (hp.rd rfl), ?_⟩⟩
  cases x.down <;> exact ⟨rfl, rfl⟩
theorem act_ok {x : D} (h : Ok x) : Ok (act x) := ⟨h.now, h.safe, h.room, h.tot, h.fewer, h.waits, h.pnow, h.psafe, by show x.fuse - 1 ≤ _; have := h.fuse; omega, h.keep⟩
theorem act_spec {h : Heap} {d : Nat} {x : D} {O : Nat → Prop} (hd : DiskAt h d x O) :
    HC Tryz.prog 129 #[.pointer (some ⟨d, 0, none⟩)] h fun v h' => DiskAt h' d (act x) O ∧ Upd O h h' ∧ v = .bool (goes x) := by
  obtain ⟨hO, c1, p1, c2, p2, A, n, c, hp, hb⟩ := hd
  have hOd := hb d (.inl rfl)
  refine HC_of_vc (args := [.pointer (some ⟨d, 0, none⟩)]) (base := 27) (cuts := []) (bigs := []) hm Tryz.func129 ?_
  rw [vcAct]
  refine ⟨_, rfl, _, reads_load scI (hp.rd rfl), _, rfl, svc_store_box szI hp.box (by simp [diskC]) rfl (one_int _ _) fun h4 s4 b4 u4 => ⟨_, rfl, x.fuse, ?_, ?_⟩⟩
  · exact reads_load scI (cell_cells b4 (by simp [diskC]))
  have okA := act_ok hp.ok
  have uO : Upd O h h4 := u4.of_sub fun i _ e => e ▸ hOd
  refine br_intro (fun e => ?_) (fun e => ?_)
  · have e : 0 < x.fuse := by simpa using e
    refine ⟨_, rfl, x.fuse, reads_load scI (cell_cells b4 (by simp [diskC])), _, rfl, svc_store_box szI b4 (by simp [diskC]) rfl (one_int _ _) fun h11 s11 b11 u11 => ⟨_, rfl, (x.fuse - 1 : Nat), ?_, ?_⟩⟩
    · refine reads_load scI (cell_cells b11 ?_)
      have := hp.ok.fuse
      have hw : IntKind.i64.wrap ((x.fuse : Int) - 1) = ((x.fuse - 1 : Nat) : Int) := by rw [wrap_i64 (by omega) (by omega)]; omega
      simp [diskC, hw]
    · have hf := hp.ok.fuse
      have hw : IntKind.i64.wrap ((x.fuse : Int) - 1) = ((x.fuse - 1 : Nat) : Int) := by rw [wrap_i64 (by omega) (by omega)]; omega
      refine ⟨⟨fun b h0 => by rw [s11, s4]; exact hO b h0, c1, p1, c2, p2, A, n, c, hp.store (c' := _) (A' := A) (n' := n) (m' := c) b11 ?_ (u4.trans u11) rfl rfl rfl okA, hb⟩, uO.trans (u11.of_sub fun i _ e => e ▸ hOd), ?_⟩
      · simp [diskC, act, hw]
      · congr 1
        unfold goes
        have : x.fuse - 1 = 0 ↔ x.fuse = 1 := by omega
        by_cases h1 : x.fuse = 1
        · rw [h1]; rfl
        · rw [beq_eq_false_iff_ne.2 h1, beq_eq_false_iff_ne]; omega
  · have e : x.fuse = 0 := by simpa using e
    refine ⟨⟨fun b h0 => by rw [s4]; exact hO b h0, c1, p1, c2, p2, A, n, c, hp.store (c' := _) (A' := A) (n' := n) (m' := c) b4 ?_ u4 rfl rfl rfl okA, hb⟩, uO, ?_⟩
    · simp [diskC, act, e]
    · simp [goes, e]
end Go.Proofs.YtkhinnchplahlaaGreatDoor
end

section
set_option linter.unusedSimpArgs false
set_option linter.unusedVariables false
namespace Go.Vc
open Go

section
variable {α : Type} {E : Enc α}
/-- a slice of the call's own, wherever it begins in its row. -/
def OwnO (E : Enc α) (T : TypeId) (B : Nat) (h : Heap) (a : Option Addr) (n c : Nat) (xs : List α) : Prop :=
  xs.length = n ∧ n ≤ c ∧ ((a = none ∧ c = 0) ∨ ∃ b o cells pre rest, a = some ⟨b, o, none⟩ ∧ B ≤ b ∧ h[b]? = some (.cells cells T (0, 0)) ∧ o + c * E.sz ≤ cells.size ∧ pre.length = o ∧
    cells.toList = pre ++ (xs.flatMap E.enc ++ rest))

theorem Own.o {T : TypeId} {B : Nat} {h : Heap} {a : Option Addr} {n c : Nat} {xs : List α} (ho : Vc.Own E T B h a n c xs) : OwnO E T B h a n c xs :=
  ⟨ho.1, ho.2.1, ho.2.2.imp id fun ⟨b, cells, e, hB, hb, hs, rest, hr⟩ => ⟨b, 0, cells, [], rest, e, hB, hb, by omega, rfl, by simpa using hr⟩⟩
theorem OwnO.nil (T : TypeId) (B : Nat) (h : Heap) : OwnO E T B h none 0 0 [] := ⟨rfl, Nat.le_refl _, .inl ⟨rfl, rfl⟩⟩
theorem OwnO.block {T : TypeId} {B : Nat} {h : Heap} {a : Option Addr} {n c : Nat} {xs : List α} (ho : OwnO E T B h a n c xs) : ∀ b, blk a b → B ≤ b ∧ b < h.size := by
  rintro b ⟨p, rfl, rfl⟩
  rcases ho.2.2 with ⟨e, _⟩ | ⟨b, o, cells, pre, rest, e, hB, hb, _⟩
  · cases e
  · cases e
    refine ⟨hB, ?_⟩
    by_cases hlt : b < h.size
    · exact hlt
    · rw [Array.getElem?_eq_none (by omega)] at hb; cases hb
theorem OwnO.sl {T : TypeId} {B : Nat} {h : Heap} {a : Option Addr} {n c : Nat} {xs : List α} (ho : OwnO E T B h a n c xs) : Sl E h a n xs := by
  obtain ⟨hl, hc, hr⟩ := ho
  refine ⟨hl, ?_⟩
  rcases hr with ⟨rfl, rfl⟩ | ⟨b, o, cells, pre, rest, rfl, hB, hb, hsz, hpre, hrest⟩
  · exact .inl (List.eq_nil_of_length_eq_zero (by omega))
  · refine .inr ⟨_, rfl, fun i x hx j v hv => ?_⟩
    have hf := flat_get (E := E) xs hx hv
    have hlt := (List.getElem?_eq_some_iff.1 hf).1
    rw [Addr.add_row]
    unfold cell
    simp only [hb, Option.isSome_none, Bool.false_eq_true, if_false]
    rw [← Array.getElem?_toList, hrest, List.getElem?_append_right (by omega), hpre, Nat.add_sub_cancel_left, List.getElem?_append_left hlt]
    exact hf
theorem OwnO.upd {T : TypeId} {B : Nat} {h h' : Heap} {a : Option Addr} {n c : Nat} {xs : List α} {S : Nat → Prop} (ho : OwnO E T B h a n c xs) (u : Upd S h h') (hs : ∀ b, blk a b → ¬ S b) :
    OwnO E T B h' a n c xs := by
  obtain ⟨hl, hc, hr⟩ := ho
  refine ⟨hl, hc, hr.imp id ?_⟩
  rintro ⟨b, o, cells, pre, rest, rfl, hB, hb, more⟩
  have hlt : b < h.size := by
    by_cases hlt : b < h.size
    · exact hlt
    · rw [Array.getElem?_eq_none (by omega)] at hb; cases hb
  exact ⟨b, o, cells, pre, rest, rfl, hB, by rw [u.block b hlt (hs b ⟨_, rfl, rfl⟩)]; exact hb, more⟩
theorem blk_subA {a : Option Addr} {l m sz : Nat} (b : Nat) : blk (subA a l m sz) b → blk a b := by
  unfold subA
  split
  · exact id
  · rintro ⟨p, e, hp⟩
    cases a with
    | none => cases e
    | some q => cases e; exact ⟨q, rfl, by rw [← hp, Addr.add_block]⟩
end

end Go.Vc
end

section
set_option linter.unusedVariables false
set_option linter.unusedSimpArgs false
set_option maxRecDepth 100000
namespace Go.Proofs.YtkhinnchplahlaaGreatDoor
open Go Go.Vc Go.Proofs Go.Dk

theorem app_ss : App Tryz.prog 83 9 StrE.sz 16 (.string ⟨#[]⟩) := ⟨by kernel_rfl, by kernel_rfl, by kernel_rfl, by kernel_rfl, rfl, by decide, by decide⟩
theorem bs_s (s : Str) : bsCells Tryz.prog 83 1 [(0, .string s)] = some (9, [Value.string s]) :=
  bs_one (v := .string s) app_ss.und app_ss.size app_ss.zero app_ss.zlen (by decide) (by decide) rfl
end Go.Proofs.YtkhinnchplahlaaGreatDoor
end

section
set_option linter.unusedVariables false
set_option maxRecDepth 100000
namespace Go.Proofs.YtkhinnchplahlaaGreatDoor
open Go Go.Vc Go.Proofs

theorem vcUint (A : Option Addr) (n c : Nat) (x : Int) (h : Heap) (R : Value → Heap → Prop) :
    vcF Tryz.prog Tryz.f136 26 [] [] [.slice A n c, .int .u64 x] h R =
(((0 : Int) ≤ (↑n : Int) ∧ (↑n : Int) ≤ (↑n : Int) ∧ (↑n : Int) ≤ (↑c : Int)) ∧
 ∃ (I0 : Option Addr → Nat → Nat → Int → Heap → Prop),
 ∃ (I1 : Option Addr → Nat → Nat → Int → Heap → Nat),
 I0 A n n x h ∧
 ∀ (a2 : Option Addr) (k3 k4 : Nat) (n5 : Int) (h6 : Heap),
 I0 a2 k3 k4 n5 h6 →
 br (decide (n5 ≥ (128 : Int)))
 (SVC Tryz.prog
 (Instr.buildSlice (146 : Nat) (1 : Nat)
 (Array.mk [((0 : Nat), Value.int IntKind.u8 (IntKind.u8.wrap (↑(BitVec.ofInt (8 : Nat) (IntKind.u8.wrap n5) ||| BitVec.ofInt (8 : Nat) (128 : Int)).toNat : Int)))]))
 h6 fun (v7 : Value) (h8 : Heap) =>
 ∃ (a9 : Option Addr),
 ∃ (k10 : Nat),
 ∃ (k11 : Nat),
 v7 = Value.slice a9 k10 k11 ∧
 SVC Tryz.prog (Builtin.append_ (Array.mk [(146 : Nat), (146 : Nat)]) (146 : Nat) (Array.mk [Value.slice a2 k3 k4, Value.slice a9 k10 k11])) h8 fun (v12 : Value) (h13 : Heap) =>
 ∃ (a14 : Option Addr),
 ∃ (k15 : Nat),
 ∃ (k16 : Nat),
 v12 = Value.slice a14 k15 k16 ∧
 (0 : Int) ≤ (7 : Int) ∧ I0 a14 k15 k16 (n5.fdiv ((2 : Int) ^ (7 : Nat))) h13 ∧ I1 a14 k15 k16 (n5.fdiv ((2 : Int) ^ (7 : Nat))) h13 < I1 a2 k3 k4 n5 h6)
 (SVC Tryz.prog (Instr.buildSlice (146 : Nat) (1 : Nat) (Array.mk [((0 : Nat), Value.int IntKind.u8 (IntKind.u8.wrap n5))])) h6 fun (v17 : Value) (h18 : Heap) =>
 ∃ (a19 : Option Addr),
 ∃ (k20 : Nat),
 ∃ (k21 : Nat),
 v17 = Value.slice a19 k20 k21 ∧
 SVC Tryz.prog (Builtin.append_ (Array.mk [(146 : Nat), (146 : Nat)]) (146 : Nat) (Array.mk [Value.slice a2 k3 k4, Value.slice a19 k20 k21])) h18
 fun (v22 : Value) (h23 : Heap) => ∃ (a24 : Option Addr), ∃ (k25 : Nat), ∃ (k26 : Nat), v22 = Value.slice a24 k25 k26 ∧ R (Value.slice a24 k25 k26) h23)) := by kernel_rfl

theorem vcInt (A : Option Addr) (n c : Nat) (x : Int) (h : Heap) (R : Value → Heap → Prop) :
    vcF Tryz.prog Tryz.f94 14 [] [] [.slice A n c, .int .i64 x] h R =
((0 : Int) ≤ (1 : Int) ∧
 (0 : Int) ≤ (63 : Int) ∧
 HC Tryz.prog (136 : Nat)
 (Array.mk
 [Value.slice A n c,
 Value.int IntKind.u64
 (IntKind.u64.wrap
 (↑(BitVec.ofInt (64 : Nat) (IntKind.u64.wrap (IntKind.i64.wrap (x * (2 : Int) ^ (1 : Nat)))) ^^^ BitVec.ofInt (64 : Nat) (IntKind.u64.wrap (x.fdiv ((2 : Int) ^ (63 : Nat))))).toNat :
 Int))])
 h fun (v0 : Value) (h1 : Heap) => ∃ (a2 : Option Addr), ∃ (k3 : Nat), ∃ (k4 : Nat), v0 = Value.slice a2 k3 k4 ∧ R (Value.slice a2 k3 k4) h1) := by kernel_rfl

theorem vcText (A : Option Addr) (n c : Nat) (s : ByteArray) (h : Heap) (R : Value → Heap → Prop) :
    vcF Tryz.prog Tryz.f93 12 [] [] [.slice A n c, .string s] h R =
(HC Tryz.prog (136 : Nat) (Array.mk [Value.slice A n c, Value.int IntKind.u64 (IntKind.u64.wrap (↑s.size : Int))]) h fun (v0 : Value) (h1 : Heap) =>
 ∃ (a2 : Option Addr),
 ∃ (k3 : Nat),
 ∃ (k4 : Nat),
 v0 = Value.slice a2 k3 k4 ∧
 SVC Tryz.prog (Builtin.append_ (Array.mk [(146 : Nat), (9 : Nat)]) (146 : Nat) (Array.mk [Value.slice a2 k3 k4, Value.string s])) h1 fun (v5 : Value) (h6 : Heap) =>
 ∃ (a7 : Option Addr), ∃ (k8 : Nat), ∃ (k9 : Nat), v5 = Value.slice a7 k8 k9 ∧ R (Value.slice a7 k8 k9) h6) := by kernel_rfl

theorem vcSum (A : Option Addr) (n c : Nat) (h : Heap) (R : Value → Heap → Prop) :
    vcF Tryz.prog Tryz.f135 29 [] [] [.slice A n c] h R =
(∃ (I0 : Int → Int → Heap → Prop),
 ∃ (I1 : Int → Int → Heap → Nat),
 I0 (4294967295 : Int) (0 : Int) h ∧
 ∀ (n2 n3 : Int) (h4 : Heap),
 I0 n2 n3 h4 →
 br (decide (n3 < (↑n : Int)))
 (∃ (p5 : Addr),
 (A = some p5 ∧ (0 : Int) ≤ n3 ∧ n3 < (↑n : Int)) ∧
 ∃ (n6 : Int),
 Reads Tryz.prog (Instr.loadAt (5 : Nat) (Value.pointer (some (p5.add (n3.toNat * (1 : Nat)))))) h4 (Value.int IntKind.u8 n6) ∧
 ∃ (I7 : Int → Int → Heap → Prop),
 ∃ (I8 : Int → Int → Heap → Nat),
 I7 (IntKind.u32.wrap (↑(BitVec.ofInt (32 : Nat) n2 ^^^ BitVec.ofInt (32 : Nat) (IntKind.u32.wrap n6)).toNat : Int)) (0 : Int) h4 ∧
 ∀ (n9 n10 : Int) (h11 : Heap),
 I7 n9 n10 h11 →
 br (decide (n10 < (8 : Int)))
 ((0 : Int) ≤ (1 : Int) ∧
 I7
 (IntKind.u32.wrap
 (↑(BitVec.ofInt (32 : Nat) (n9.fdiv ((2 : Int) ^ (1 : Nat))) ^^^
 BitVec.ofInt (32 : Nat)
 (IntKind.u32.wrap
 (↑(BitVec.ofInt (32 : Nat) (2197175160 : Int) &&&
 BitVec.ofInt (32 : Nat)
 (IntKind.u32.wrap
 ((0 : Int) - IntKind.u32.wrap (↑(BitVec.ofInt (32 : Nat) n9 &&& BitVec.ofInt (32 : Nat) (1 : Int)).toNat : Int)))).toNat :
 Int))).toNat :
 Int))
 (IntKind.i64.wrap (n10 + (1 : Int))) h11 ∧
 I8
 (IntKind.u32.wrap
 (↑(BitVec.ofInt (32 : Nat) (n9.fdiv ((2 : Int) ^ (1 : Nat))) ^^^
 BitVec.ofInt (32 : Nat)
 (IntKind.u32.wrap
 (↑(BitVec.ofInt (32 : Nat) (2197175160 : Int) &&&
 BitVec.ofInt (32 : Nat)
 (IntKind.u32.wrap
 ((0 : Int) - IntKind.u32.wrap (↑(BitVec.ofInt (32 : Nat) n9 &&& BitVec.ofInt (32 : Nat) (1 : Int)).toNat : Int)))).toNat :
 Int))).toNat :
 Int))
 (IntKind.i64.wrap (n10 + (1 : Int))) h11 <
 I8 n9 n10 h11)
 (I0 n9 (IntKind.i64.wrap (n3 + (1 : Int))) h11 ∧ I1 n9 (IntKind.i64.wrap (n3 + (1 : Int))) h11 < I1 n2 n3 h4))
 (R (Value.int IntKind.u32 (IntKind.u32.wrap (↑(BitVec.ofInt (32 : Nat) (Int.ofNat (4294967295 : Nat)) ^^^ BitVec.ofInt (32 : Nat) n2).toNat : Int))) h4)) := by kernel_rfl

theorem vcFput (A : Option Addr) (n c : Nat) (s : ByteArray) (h : Heap) (R : Value → Heap → Prop) :
    vcF Tryz.prog Tryz.f91 33 [] [] [.slice A n c, .string s] h R =
(HC Tryz.prog (93 : Nat) (Array.mk [Value.slice none (0 : Nat) (0 : Nat), Value.string s]) h fun (v0 : Value) (h1 : Heap) =>
 ∃ (a2 : Option Addr),
 ∃ (k3 : Nat),
 ∃ (k4 : Nat),
 v0 = Value.slice a2 k3 k4 ∧
 HC Tryz.prog (135 : Nat) (Array.mk [Value.slice a2 k3 k4]) h1 fun (v5 : Value) (h6 : Heap) =>
 ∃ (n7 : Int),
 v5 = Value.int IntKind.u32 n7 ∧
 (0 : Int) ≤ (8 : Int) ∧
 (0 : Int) ≤ (16 : Int) ∧
 (0 : Int) ≤ (24 : Int) ∧
 SVC Tryz.prog
 (Instr.buildSlice (146 : Nat) (4 : Nat)
 (Array.mk
 [((0 : Nat), Value.int IntKind.u8 (IntKind.u8.wrap n7)), ((1 : Nat), Value.int IntKind.u8 (IntKind.u8.wrap (n7.fdiv ((2 : Int) ^ (8 : Nat))))),
 ((2 : Nat), Value.int IntKind.u8 (IntKind.u8.wrap (n7.fdiv ((2 : Int) ^ (16 : Nat))))),
 ((3 : Nat), Value.int IntKind.u8 (IntKind.u8.wrap (n7.fdiv ((2 : Int) ^ (24 : Nat)))))]))
 h6 fun (v8 : Value) (h9 : Heap) =>
 ∃ (a10 : Option Addr),
 ∃ (k11 : Nat),
 ∃ (k12 : Nat),
 v8 = Value.slice a10 k11 k12 ∧
 SVC Tryz.prog (Builtin.append_ (Array.mk [(146 : Nat), (146 : Nat)]) (146 : Nat) (Array.mk [Value.slice a2 k3 k4, Value.slice a10 k11 k12])) h9
 fun (v13 : Value) (h14 : Heap) =>
 ∃ (a15 : Option Addr),
 ∃ (k16 : Nat),
 ∃ (k17 : Nat),
 v13 = Value.slice a15 k16 k17 ∧
 ((0 : Int) ≤ (↑n : Int) ∧ (↑n : Int) ≤ (↑n : Int) ∧ (↑n : Int) ≤ (↑c : Int)) ∧
 SVC Tryz.prog (Builtin.append_ (Array.mk [(146 : Nat), (146 : Nat)]) (146 : Nat) (Array.mk [Value.slice A n n, Value.slice a15 k16 k17])) h14
 fun (v18 : Value) (h19 : Heap) => ∃ (a20 : Option Addr), ∃ (k21 : Nat), ∃ (k22 : Nat), v18 = Value.slice a20 k21 k22 ∧ R (Value.slice a20 k21 k22) h19) := by kernel_rfl

theorem vcChunk (A : Option Addr) (n c : Nat) (k : Int) (h : Heap) (R : Value → Heap → Prop) :
    vcF Tryz.prog Tryz.f138 9 [] [] [.slice A n c, .int .i64 k] h R =
(∃ (n0 : Int),
 Reads Tryz.prog (Instr.loadAt (3 : Nat) (Value.pointer (some (Addr.mk (Array.push h (Obj.cells (Array.mk [Value.slice A n c]) (146 : Nat))).size (0 : Nat) none))))
 ((Array.push h (Obj.cells (Array.mk [Value.slice A n c]) (146 : Nat))).push (Obj.cells (Array.mk [Value.int IntKind.i64 k]) (3 : Nat))) (Value.int IntKind.i64 n0) ∧
 br (decide (n0 < (1 : Int))) False
 (R
 (Value.func (Fn.func (165 : Nat)) (Array.mk [])
 (Array.mk
 [Value.pointer (some (Addr.mk (Array.size h) (0 : Nat) none)), Value.pointer (some (Addr.mk (Array.push h (Obj.cells (Array.mk [Value.slice A n c]) (146 : Nat))).size (0 : Nat) none))]))
 ((Array.push h (Obj.cells (Array.mk [Value.slice A n c]) (146 : Nat))).push (Obj.cells (Array.mk [Value.int IntKind.i64 k]) (3 : Nat))))) := by kernel_rfl
end Go.Proofs.YtkhinnchplahlaaGreatDoor
end

section
set_option linter.unusedVariables false
set_option linter.unusedSimpArgs false
set_option maxRecDepth 100000
namespace Go.Proofs.YtkhinnchplahlaaGreatDoor
open Go Go.Vc Go.Proofs Go.Cd

theorem app_b : App Tryz.prog 146 5 ByteE.sz 1 (.int .u8 0) := ⟨by kernel_rfl, by kernel_rfl, by kernel_rfl, by kernel_rfl, rfl, by decide, by decide⟩
theorem bs_b1 (b : UInt8) : bsCells Tryz.prog 146 1 [(0, .int .u8 (b.toNat : Nat))] = some (5, [b].flatMap ByteE.enc) := by kernel_rfl
theorem bs_b4 (a b c d : UInt8) : bsCells Tryz.prog 146 4 [(0, .int .u8 (a.toNat : Nat)), (1, .int .u8 (b.toNat : Nat)), (2, .int .u8 (c.toNat : Nat)), (3, .int .u8 (d.toNat : Nat))] = some (5, [a, b, c, d].flatMap ByteE.enc) := by kernel_rfl
section
variable {h H : Heap} {A : Option Addr} {n : Nat} {xs : List UInt8}
/-- bytes that are being put behind those that came in, which has no room of its own. -/
def Buf (h : Heap) (A : Option Addr) (n : Nat) (xs : List UInt8) (H : Heap) (a : Option Addr) (k c : Nat) (l : List UInt8) : Prop :=
  (l = xs ∧ a = A ∧ k = n ∧ c = n) ∨ Vc.Own ByteE 5 h.size H a k c l
theorem Buf.len {a : Option Addr} {k c : Nat} {l : List UInt8} (hx : xs.length = n) (b : Buf h A n xs H a k c l) : l.length = k := b.elim (fun ⟨e, _, e2, _⟩ => by rw [e, e2]; exact hx) fun o => o.1
theorem buf_app {a : Option Addr} {k c m c2 : Nat} {b2 : Option Addr} {l ys : List UInt8} {ty : TypeId} {K : Value → Heap → Prop} (hx : Sl ByteE h A n xs) (hk : Keep h.size h H) (b : Buf h A n xs H a k c l) (hm : 0 < m) (hs : Sl ByteE H b2 m ys) (hroom : k + m ≤ 1099511627776)
    (kk : ∀ a' c' H', Keep h.size h H' → Vc.Own ByteE 5 h.size H' a' (k + m) c' (l ++ ys) → K (.slice a' (k + m) c') H') :
    SVC Tryz.prog (Builtin.append_ #[146, 146] ty #[.slice a k c, .slice b2 m c2]) H K := by
  rcases b with ⟨rfl, rfl, rfl, rfl⟩ | o
  · exact svc_append_grow app_b undBs (.inl ⟨_, rfl⟩) (hx.keep hk) hk.size (by omega) (Nat.le_refl _) (len_slice _ _ _) hs.1 (fun w hw => first_sl (by decide) (by rw [hw]; exact hs)) (by omega)
      fun c' H' o kp sz => kk _ c' H' (hk.trans (kp.mono hk.size)) o
  · exact svc_append app_b o hk.size hs (by omega) fun a' c' H' o' u' b' => kk a' c' H' (hk.trans (u'.keep hk.size fun q hq => (o.block q hq).1)) o'
theorem buf_add {a : Option Addr} {k c : Nat} {l : List UInt8} {ty : TypeId} {v : UInt8} {K : Value → Heap → Prop} (hx : Sl ByteE h A n xs) (hk : Keep h.size h H) (b : Buf h A n xs H a k c l) (hroom : k ≤ 1073741824)
    (kk : ∀ a' c' H', Keep h.size h H' → Vc.Own ByteE 5 h.size H' a' (k + 1) c' (l ++ [v]) → K (.slice a' (k + 1) c') H') :
    SVC Tryz.prog (Instr.buildSlice 146 1 (Array.mk [(0, Value.int .u8 (v.toNat : Nat))])) H fun v7 h8 => ∃ (a9 : Option Addr) (k10 k11 : Nat), v7 = Value.slice a9 k10 k11 ∧
      SVC Tryz.prog (Builtin.append_ (Array.mk [146, 146]) ty (Array.mk [Value.slice a k c, Value.slice a9 k10 k11])) h8 K := by
  refine svc_buildSlice (bs_b1 v) ⟨_, _, _, rfl, ?_⟩
  have k1 := keep_push H (.cells ([v].flatMap ByteE.enc).toArray 5 (0, 0))
  have b1 : Buf h A n xs (H.push (.cells ([v].flatMap ByteE.enc).toArray 5 (0, 0))) a k c l := b.imp id fun o => o.upd (k1.upd fun _ => False) fun _ _ h => h
  exact buf_app hx (hk.trans (k1.mono hk.size)) b1 (by decide) (sl_bytes (push_at H (.cells ([v].flatMap ByteE.enc).toArray 5 (0, 0)))) (by omega) fun a' c' H' kp o => kk a' c' H' kp o
end
theorem uint_spec {h : Heap} {A : Option Addr} {n c : Nat} {xs : List UInt8} (hx : Sl ByteE h A n xs) (hc : n ≤ c) (hn : n ≤ 1073741000) (x : Nat) (hx64 : x < 18446744073709551616) :
    HC Tryz.prog 136 #[.slice A n c, .int .u64 x] h fun v h' => Keep h.size h h' ∧ ∃ a k c', v = .slice a k c' ∧ Vc.Own ByteE 5 h.size h' a k c' (xs ++ uintB x) := by
  refine HC_of_vc (args := [.slice A n c, .int .u64 x]) (base := 26) (cuts := []) (bigs := []) hm Tryz.func136 ?_
  rw [vcUint]
  refine ⟨⟨by omega, by omega, by omega⟩, fun a k c n5 H => ∃ (m : Nat) (done : List UInt8), n5 = m ∧ Keep h.size h H ∧ done ++ uintB m = uintB x ∧ Buf h A n xs H a k c (xs ++ done), fun _ _ _ n5 _ => n5.toNat,
    ⟨x, [], rfl, Keep.refl _ _, rfl, .inl ⟨by simp, rfl, rfl, rfl⟩⟩, ?_⟩
  rintro a k c2 n5 H ⟨m, done, rfl, hk, hd, b⟩
  have hlen := b.len hx.1
  have hdl : done.length ≤ 10 := by
    have h1 := uintB_len10 hx64
    rw [← hd, List.length_append] at h1; omega
  rw [List.length_append, hx.1] at hlen
  refine br_intro (fun e => ?_) (fun e => ?_)
  · have e := of_decide_eq_true e
    rw [or_lead]
    refine buf_add hx hk b (by omega) fun a' c' H' kp o => ⟨_, _, _, rfl, by decide, ?_⟩
    have e2 : (m : Int).fdiv (2 ^ 7) = ((m / 128 : Nat) : Int) := by rw [Int.fdiv_eq_ediv_of_nonneg _ (by decide)]; rfl
    rw [e2]
    rw [uintB_big (by omega)] at hd
    exact ⟨⟨m / 128, done ++ [UInt8.ofNat (m % 128 + 128)], rfl, kp, by rw [← hd]; simp, .inr (by rw [← List.append_assoc]; exact o)⟩, by dsimp only; omega⟩
  · have e := of_decide_eq_false e
    rw [u8_b8, b8_nat]
    rw [uintB_small (by omega)] at hd
    refine buf_add hx hk b (by omega) fun a' c' H' kp o => ⟨_, _, _, rfl, kp, _, _, _, rfl, ?_⟩
    rw [← hd, ← List.append_assoc]; exact o
theorem xor_nat (a : Nat) (ha : a < 9223372036854775808) : IntKind.u64.wrap ((BitVec.ofInt 64 (IntKind.u64.wrap (IntKind.i64.wrap ((a : Int) * 2 ^ 1))) ^^^ BitVec.ofInt 64 (IntKind.u64.wrap ((a : Int).fdiv (2 ^ 63)))).toNat : Int) = ((2 * a : Nat) : Int) := by
  have h0 : (a : Int).fdiv (2 ^ 63) = 0 := by rw [Int.fdiv_eq_ediv_of_nonneg _ (by decide)]; omega
  have h1 : IntKind.u64.wrap (IntKind.i64.wrap ((a : Int) * 2 ^ 1)) = ((2 * a : Nat) : Int) := by
    simp only [IntKind.wrap, IntKind.signed, IntKind.bits]
    simp only [Bool.true_and, Bool.false_and, Bool.false_eq_true, if_false]
    split
    · rename_i hh; simp at hh; omega
    · rename_i hh; simp at hh; omega
  have h2 : IntKind.u64.wrap 0 = 0 := by decide
  rw [h0, h1, h2]
  have h3 : (BitVec.ofInt 64 ((2 * a : Nat) : Int) ^^^ BitVec.ofInt 64 0).toNat = 2 * a := by
    simp [BitVec.toNat_ofInt]; omega
  rw [h3]
  simp only [IntKind.wrap, IntKind.signed, IntKind.bits]
  simp; omega
theorem int_spec {h : Heap} {A : Option Addr} {n c : Nat} {xs : List UInt8} (hx : Sl ByteE h A n xs) (hc : n ≤ c) (hn : n ≤ 1073741000) (x : Nat) (hx63 : x < 9223372036854775808) :
    HC Tryz.prog 94 #[.slice A n c, .int .i64 x] h fun v h' => Keep h.size h h' ∧ ∃ a k c', v = .slice a k c' ∧ Vc.Own ByteE 5 h.size h' a k c' (xs ++ uintB (2 * x)) := by
  refine HC_of_vc (args := [.slice A n c, .int .i64 x]) (base := 14) (cuts := []) (bigs := []) hm Tryz.func94 ?_
  rw [vcInt, xor_nat x hx63]
  refine ⟨by decide, by decide, (uint_spec hx hc hn (2 * x) (by omega)).mono ?_⟩
  rintro v h1 ⟨k1, a, k, c', rfl, o⟩
  exact ⟨_, _, _, rfl, k1, _, _, _, rfl, o⟩
theorem text_spec {h : Heap} {A : Option Addr} {n c : Nat} {xs : List UInt8} (hx : Sl ByteE h A n xs) (hc : n ≤ c) (hn : n ≤ 1073741000) (s : ByteArray) (hs : s.size ≤ 1073741824) :
    HC Tryz.prog 93 #[.slice A n c, .string s] h fun v h' => Keep h.size h h' ∧ ∃ a k c', v = .slice a k c' ∧ Vc.Own ByteE 5 h.size h' a k c' (xs ++ textB s) := by
  refine HC_of_vc (args := [.slice A n c, .string s]) (base := 12) (cuts := []) (bigs := []) hm Tryz.func93 ?_
  rw [vcText]
  have hw : IntKind.u64.wrap (s.size : Int) = (s.size : Int) := by simp only [IntKind.wrap, IntKind.signed, IntKind.bits]; simp; omega
  rw [hw]
  refine (uint_spec hx hc hn s.size (by omega)).mono ?_
  rintro v h1 ⟨k1, a, k, c', rfl, o⟩
  have hl := o.1
  have h10 := uintB_len10 (n := s.size) (by omega)
  have hxl := hx.1
  rw [List.length_append] at hl
  refine ⟨_, _, _, rfl, svc_append_str app_b undS o k1.size (by omega) fun a' c2 h' o' u' b' => ⟨_, _, _, rfl, k1.trans (u'.keep k1.size fun q hq => (o.block q hq).1), _, _, _, rfl, ?_⟩⟩
  have : xs ++ textB s = xs ++ uintB s.size ++ bytesL s := by unfold textB; rw [List.append_assoc]
  rw [this]; exact o'
theorem sum_spec {h : Heap} {A : Option Addr} {n c : Nat} {xs : List UInt8} (hx : Sl ByteE h A n xs) (hn : n ≤ 1099511627776) :
    HC Tryz.prog 135 #[.slice A n c] h fun v h' => h' = h ∧ v = .int .u32 (crc xs) := by
  refine HC_of_vc (args := [.slice A n c]) (base := 29) (cuts := []) (bigs := []) hm Tryz.func135 ?_
  rw [vcSum]
  have hl := hx.1
  refine ⟨fun n2 n3 H => ∃ k : Nat, n3 = k ∧ k ≤ n ∧ H = h ∧ n2 = (xs.take k).foldl crcB 4294967295, fun _ n3 _ => n - n3.toNat, ⟨0, rfl, Nat.zero_le _, rfl, rfl⟩, ?_⟩
  rintro n2 n3 H ⟨k, rfl, hk, rfl, rfl⟩
  refine br_intro (fun hlt => ?_) (fun hge => ?_)
  · have hlt := of_decide_eq_true hlt
    have hlt : k < n := by omega
    obtain ⟨p, hA, hp⟩ := hx.byte (j := k) (by omega)
    refine ⟨p, ⟨hA, by omega, by omega⟩, _, reads_load (by kernel_rfl) (by rw [Int.toNat_natCast, Nat.mul_one]; exact hp), ?_⟩
    generalize hb : xs[k]'(by omega) = b
    have htk : (xs.take (k + 1)).foldl crcB 4294967295 = crcB ((xs.take k).foldl crcB 4294967295) b := by
      rw [List.take_succ_eq_append_getElem (by omega), List.foldl_append, hb]; rfl
    refine ⟨fun n9 n10 H' => ∃ j : Nat, n10 = j ∧ j ≤ 8 ∧ H' = H ∧ n9 = crcN j (IntKind.u32.wrap (BitVec.ofInt 32 ((xs.take k).foldl crcB 4294967295) ^^^ BitVec.ofInt 32 (IntKind.u32.wrap (b.toNat : Nat))).toNat), fun _ n10 _ => 8 - n10.toNat,
      ⟨0, rfl, Nat.zero_le _, rfl, rfl⟩, ?_⟩
    rintro n9 n10 H' ⟨j, rfl, hj, rfl, rfl⟩
    refine br_intro (fun h8 => ?_) (fun h8 => ?_)
    · have h8 := of_decide_eq_true h8
      refine ⟨by decide, ?_⟩
      rw [wrap_i64 (n := (j : Int) + 1) (by omega) (by omega)]
      exact ⟨⟨j + 1, rfl, by omega, rfl, by rw [crcN_succ]; rfl⟩, by dsimp only; omega⟩
    · have h8 := of_decide_eq_false h8
      have hj8 : j = 8 := by omega
      subst hj8
      rw [wrap_i64 (by omega) (by omega)]
      exact ⟨⟨k + 1, rfl, hlt, rfl, by rw [htk]; rfl⟩, by dsimp only; omega⟩
  · have hge := of_decide_eq_false hge
    have hk' : k = n := by omega
    refine ⟨rfl, ?_⟩
    rw [hk', List.take_of_length_le (by omega)]
    rfl
theorem fput_spec {h : Heap} {A : Option Addr} {n c : Nat} {xs : List UInt8} (hx : Sl ByteE h A n xs) (hc : n ≤ c) (hn : n ≤ 1073741000) (s : ByteArray) (hs : s.size ≤ 1073741000) :
    HC Tryz.prog 91 #[.slice A n c, .string s] h fun v h' => Keep h.size h h' ∧ ∃ a k c', v = .slice a k c' ∧ Vc.Own ByteE 5 h.size h' a k c' (xs ++ frameB s) := by
  refine HC_of_vc (args := [.slice A n c, .string s]) (base := 33) (cuts := []) (bigs := []) hm Tryz.func91 ?_
  rw [vcFput]
  refine (text_spec (Sl.nil _ _) (Nat.le_refl _) (by omega) s (by omega)).mono ?_
  rintro v h1 ⟨k1, a2, k3, c4, rfl, o1⟩
  rw [List.nil_append] at o1
  have hl1 := o1.1
  have htl := textB_len s
  have h10 := uintB_len10 (n := s.size) (by omega)
  refine ⟨_, _, _, rfl, (sum_spec (c := c4) o1.sl (by omega)).mono ?_⟩
  rintro v h1 ⟨rfl, rfl⟩
  refine ⟨_, rfl, by decide, by decide, by decide, ?_⟩
  rw [u8_b8, u8_b8, u8_b8, u8_b8]
  refine svc_buildSlice (bs_b4 _ _ _ _) ⟨_, _, _, rfl, ?_⟩
  have hS : [b8 (crc (textB s)), b8 ((crc (textB s)).fdiv (2 ^ 8)), b8 ((crc (textB s)).fdiv (2 ^ 16)), b8 ((crc (textB s)).fdiv (2 ^ 24))] = sumB (crc (textB s)) := rfl
  rw [hS]
  have k9 := keep_push h1 (.cells ((sumB (crc (textB s))).flatMap ByteE.enc).toArray 5 (0, 0))
  have o9 := o1.upd (k9.upd fun _ => False) fun _ _ h => h
  refine svc_append app_b o9 (Nat.le_trans k1.size k9.size) (sl_bytes (push_at h1 (.cells ((sumB (crc (textB s))).flatMap ByteE.enc).toArray 5 (0, 0)))) (by show (4 * (k3 + 4) + 192) * 1 ≤ 2 ^ 48; omega) fun a' c' h14 o14 u14 b14 => ⟨_, _, _, rfl, ⟨by omega, by omega, by omega⟩, ?_⟩
  have k14 : Keep h.size h h14 := k1.trans ((k9.mono k1.size).trans (u14.keep (Nat.le_trans k1.size k9.size) fun q hq => (o9.block q hq).1))
  have o14 : Vc.Own ByteE 5 h.size h14 a' (k3 + 4) c' (frameB s) := o14
  refine buf_app (h := h) (A := A) (n := n) (xs := xs) hx k14 (.inl ⟨rfl, rfl, rfl, rfl⟩) (Nat.succ_pos _) o14.sl (by show n + (k3 + 4) ≤ _; omega) fun a2 c2 H' kp o => ⟨_, _, _, rfl, kp, _, _, _, rfl, o⟩
end Go.Proofs.YtkhinnchplahlaaGreatDoor
end
