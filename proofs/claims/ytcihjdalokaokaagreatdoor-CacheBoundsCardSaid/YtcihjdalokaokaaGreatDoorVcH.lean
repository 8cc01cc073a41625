/-
  Heaps: reading, writing, slices that read as lists, slices of a call's own, append. Conditions: none.
-/
import Derived.Test.YtcihjdalokaokaaGreatDoorVcE
import Derived.Laws.StructEq
set_option linter.unusedSimpArgs false
set_option linter.unusedVariables false
namespace Go.Vc
open Go

def cell (h : Heap) (p : Addr) : Option Value :=
  match h[p.block]? with
  | some (.cells c _ _) => if p.spot.isSome then none else c[p.off]?
  | _ => none
def froz (h : Heap) (p : Addr) : Bool :=
  match h[p.block]? with
  | some (.cells _ _ (lo, hi)) => lo ≤ p.off && p.off < hi
  | _ => false
theorem cell_eq (w : World) (p : Addr) : w.cell? p = cell w.heap p := rfl
theorem froz_eq (w : World) (p : Addr) : w.frozen? p = froz w.heap p := rfl
theorem cell_lt {h : Heap} {p : Addr} {v : Value} (hc : cell h p = some v) : p.block < h.size := by
  unfold cell at hc
  by_cases hb : p.block < h.size
  · exact hb
  · rw [Array.getElem?_eq_none (by omega)] at hc; cases hc
theorem cell_congr {h h' : Heap} {p : Addr} (e : h'[p.block]? = h[p.block]?) : cell h' p = cell h p := by unfold cell; rw [e]
theorem Addr.add_add (p : Addr) (a b : Nat) : (p.add a).add b = p.add (a + b) := by
  unfold Addr.add
  by_cases ha : a = 0 <;> by_cases hb : b = 0 <;> simp [ha, hb]
  omega
theorem Addr.add_block (p : Addr) (a : Nat) : (p.add a).block = p.block := by unfold Addr.add; split <;> rfl
theorem Addr.add_off (p : Addr) (a : Nat) : (p.add a).off = p.off + a := by unfold Addr.add; split <;> simp_all
theorem Addr.add_row (b o k : Nat) : (⟨b, o, none⟩ : Addr).add k = ⟨b, o + k, none⟩ := by unfold Addr.add; split <;> simp_all

/-- below B nothing has turned. -/
structure Keep (B : Nat) (h h' : Heap) : Prop where
  size : h.size ≤ h'.size
  block : ∀ b, b < B → h'[b]? = h[b]?
theorem Keep.refl (B : Nat) (h : Heap) : Keep B h h := ⟨Nat.le_refl _, fun _ _ => rfl⟩
theorem Keep.trans {B : Nat} {a b c : Heap} (h : Keep B a b) (k : Keep B b c) : Keep B a c :=
  ⟨Nat.le_trans h.size k.size, fun i hi => (k.block i hi).trans (h.block i hi)⟩
theorem Keep.mono {B C : Nat} {a b : Heap} (h : Keep B a b) (hc : C ≤ B) : Keep C a b := ⟨h.size, fun i hi => h.block i (Nat.lt_of_lt_of_le hi hc)⟩
theorem Keep.cell {B : Nat} {h h' : Heap} (k : Keep B h h') {p : Addr} (hp : p.block < B) : Vc.cell h' p = Vc.cell h p := cell_congr (k.block _ hp)
theorem Keep.cell_some {h h' : Heap} (k : Keep h.size h h') {p : Addr} {v : Value} (hc : Vc.cell h p = some v) : Vc.cell h' p = some v := by
  rw [k.cell (cell_lt hc)]; exact hc
theorem Keep.push (B : Nat) (h : Heap) (o : Obj) (hB : B ≤ h.size) : Keep B h (h.push o) :=
  ⟨by simp, fun b hb => by rw [Array.getElem?_push, if_neg (by omega)]⟩
theorem push_at (h : Heap) (o : Obj) : (h.push o)[h.size]? = some o := by simp
theorem push_old (h : Heap) (o : Obj) {b : Nat} (hb : b < h.size) : (h.push o)[b]? = h[b]? := by rw [Array.getElem?_push, if_neg (by omega)]

/-- what has turned lies in blocks of S. -/
structure Upd (S : Nat → Prop) (h h' : Heap) : Prop where
  size : h.size ≤ h'.size
  block : ∀ b, b < h.size → ¬ S b → h'[b]? = h[b]?
theorem Upd.refl (S : Nat → Prop) (h : Heap) : Upd S h h := ⟨Nat.le_refl _, fun _ _ _ => rfl⟩
theorem Upd.trans {S : Nat → Prop} {a b c : Heap} (h : Upd S a b) (k : Upd S b c) : Upd S a c :=
  ⟨Nat.le_trans h.size k.size, fun i hi hs => (k.block i (Nat.lt_of_lt_of_le hi h.size) hs).trans (h.block i hi hs)⟩
theorem Upd.mono {S T : Nat → Prop} {a b : Heap} (h : Upd S a b) (hs : ∀ i, S i → T i) : Upd T a b := ⟨h.size, fun i hi ht => h.block i hi fun s => ht (hs i s)⟩
theorem Upd.keep {S : Nat → Prop} {B : Nat} {a b : Heap} (h : Upd S a b) (hB : B ≤ a.size) (hs : ∀ i, S i → B ≤ i) : Keep B a b :=
  ⟨h.size, fun i hi => h.block i (Nat.lt_of_lt_of_le hi hB) fun s => absurd (hs i s) (by omega)⟩
theorem Keep.upd {a b : Heap} (h : Keep a.size a b) (S : Nat → Prop) : Upd S a b := ⟨h.size, fun i hi _ => h.block i hi⟩
def blk (a : Option Addr) (b : Nat) : Prop := ∃ p, a = some p ∧ p.block = b

/- ------------------------------------------------------------------ reading -/

def scT (P : Program) (t : TypeId) : Bool := match P.underlying t with | some (.struct _) | some (.array _ _) | none => false | _ => true
theorem run_isAgg_sc {P : Program} {t : TypeId} (ht : scT P t = true) (w : World) : (isAgg t).run P w = .ok false w := by
  unfold scT at ht
  cases hu : P.underlying t with
  | none => simp [hu] at ht
  | some d => cases d <;> simp_all [isAgg, run_underlying hu]
theorem reads_load {P : Program} {t : TypeId} {h : Heap} {p : Addr} {v : Value} (ht : scT P t = true) (hc : cell h p = some v) :
    Reads P (Instr.loadAt t (.pointer (some p))) h v :=
  ⟨fun w hw => by
    subst hw
    simp only [Instr.loadAt, Instr.sureAddr, Sem.run_bind, Sem.run_pure, Result.andThen_ok, loadVar, run_isAgg_sc ht, Bool.false_eq_true, if_false, run_load, cell_eq, hc]⟩

theorem run_loadCells {P : Program} {w : World} {p : Addr} {n : Nat} {cs : List Value} (hn : cs.length = n) (hc : ∀ j v, cs[j]? = some v → cell w.heap (p.add j) = some v) :
    (loadCells p n).run P w = .ok cs.toArray w := by
  have key : ∀ (k i : Nat) (acc : Array Value), i + k = n → (loadCellsFrom p i k acc).run P w = .ok (acc ++ (cs.drop i).toArray) w := by
    intro k
    induction k with
    | zero => intro i acc h; simp [loadCellsFrom]; omega
    | succ k ih =>
      intro i acc h
      have hi : i < cs.length := by omega
      have hv := hc i cs[i] (List.getElem?_eq_getElem hi)
      simp only [loadCellsFrom, Sem.run_bind, run_load, cell_eq, hv, Result.andThen_ok]
      rw [ih (i + 1) _ (by omega), List.drop_eq_getElem_cons hi]
      simp
  rw [loadCells, key n 0 #[] (by omega)]
  simp

def agT (P : Program) (t : TypeId) (n : Nat) : Bool := aggT P t && (match szOf P t with | some m => Nat.beq m n | none => false)
theorem agT_spec {P : Program} {t : TypeId} {n : Nat} (h : agT P t n = true) : (∀ w, (isAgg t).run P w = .ok true w) ∧ szOf P t = some n := by
  simp only [agT, Bool.and_eq_true] at h
  constructor
  · intro w
    have ha := h.1
    unfold aggT at ha
    cases hu : P.underlying t with
    | none => simp [hu] at ha
    | some d => cases d <;> simp_all [isAgg, run_underlying hu]
  · cases hs : szOf P t with
    | none => simp [hs] at h
    | some m => simp only [hs] at h; rw [Nat.eq_of_beq_eq_true h.2]
theorem reads_load_agg {P : Program} {t : TypeId} {n : Nat} {h : Heap} {p : Addr} {cs : List Value} (ht : agT P t n = true) (hn : cs.length = n)
    (hc : ∀ j v, cs[j]? = some v → cell h (p.add j) = some v) : Reads P (Instr.loadAt t (.pointer (some p))) h (.agg cs.toArray) :=
  ⟨fun w hw => by
    subst hw
    obtain ⟨h1, h2⟩ := agT_spec ht
    simp only [Instr.loadAt, Instr.sureAddr, Sem.run_bind, Sem.run_pure, Result.andThen_ok, loadVar, h1, if_true, run_szOf h2, run_loadCells hn hc]⟩

/- ------------------------------------------------------------------ slices that read as lists -/

structure Enc (α : Type) where
  sz : Nat
  enc : α → List Value
  len : ∀ x, (enc x).length = sz
  one : ∀ x v, v ∈ enc x → (∀ c, v ≠ .agg c) ∧ (∀ c, v ≠ .tuple c)

section
variable {α : Type} {E : Enc α}

/-- from an address on lie elements. -/
def At (E : Enc α) (h : Heap) (p : Addr) (xs : List α) : Prop :=
  ∀ i x, xs[i]? = some x → ∀ j v, (E.enc x)[j]? = some v → cell h (p.add (i * E.sz + j)) = some v
/-- a slice of so many elements reads as a list. -/
def Sl (E : Enc α) (h : Heap) (a : Option Addr) (n : Nat) (xs : List α) : Prop :=
  xs.length = n ∧ (xs = [] ∨ ∃ p, a = some p ∧ At E h p xs)

theorem Sl.nil (h : Heap) (a : Option Addr) : Sl E h a 0 [] := ⟨rfl, .inl rfl⟩
theorem Sl.len {h : Heap} {a : Option Addr} {n : Nat} {xs : List α} (hs : Sl E h a n xs) : xs.length = n := hs.1
theorem At.keep (hz : 0 < E.sz) {h h' : Heap} {p : Addr} {xs : List α} (hs : At E h p xs) (k : Keep h.size h h') : At E h' p xs :=
  fun i x hx j v hv => k.cell_some (hs i x hx j v hv)
theorem Sl.keep {h h' : Heap} {a : Option Addr} {n : Nat} {xs : List α} (hs : Sl E h a n xs) (k : Keep h.size h h') : Sl E h' a n xs :=
  ⟨hs.1, hs.2.imp id fun ⟨p, e, hp⟩ => ⟨p, e, fun i x hx j v hv => k.cell_some (hp i x hx j v hv)⟩⟩
theorem Sl.get {h : Heap} {a : Option Addr} {n : Nat} {xs : List α} (hs : Sl E h a n xs) {i : Nat} {x : α} (hx : xs[i]? = some x) :
    ∃ p, a = some p ∧ ∀ j v, (E.enc x)[j]? = some v → cell h (p.add (i * E.sz + j)) = some v := by
  rcases hs.2 with rfl | ⟨p, e, hp⟩
  · simp at hx
  · exact ⟨p, e, hp i x hx⟩
theorem Sl.head {h : Heap} {a : Option Addr} {n : Nat} {x : α} {xs : List α} (hs : Sl E h a n (x :: xs)) :
    ∃ p, a = some p ∧ ∀ j v, (E.enc x)[j]? = some v → cell h (p.add j) = some v := by
  obtain ⟨p, e, hp⟩ := hs.get (i := 0) (x := x) rfl
  exact ⟨p, e, fun j v hv => by have := hp j v hv; rwa [Nat.zero_mul, Nat.zero_add] at this⟩
theorem Sl.tail {h : Heap} {a : Option Addr} {n c : Nat} {x : α} {xs : List α} (hs : Sl E h a n (x :: xs)) (hc : n ≤ c) :
    Sl E h (subA a 1 c E.sz) (n - 1) xs := by
  have hl := hs.1
  simp only [List.length_cons] at hl
  refine ⟨by omega, ?_⟩
  by_cases h1 : c = 1
  · exact .inl (by cases xs with | nil => rfl | cons _ _ => simp at hl; omega)
  · obtain ⟨p, rfl, hp⟩ := hs.get (i := 0) (x := x) rfl
    rcases hs.2 with e | ⟨q, e, hq⟩
    · cases e
    · cases e
      refine .inr ⟨p.add (1 * E.sz), by simp [subA, h1], fun i y hy j v hv => ?_⟩
      rw [Addr.add_add]
      have := hq (i + 1) y (by simpa using hy) j v hv
      rw [show 1 * E.sz + (i * E.sz + j) = (i + 1) * E.sz + j by rw [Nat.add_mul]; omega]
      exact this

/- ------------------------------------------------------------------ a slice of the call's own -/

def Own (E : Enc α) (T : TypeId) (B : Nat) (h : Heap) (a : Option Addr) (n c : Nat) (xs : List α) : Prop :=
  xs.length = n ∧ n ≤ c ∧ ((a = none ∧ c = 0) ∨ ∃ b cells, a = some ⟨b, 0, none⟩ ∧ B ≤ b ∧ h[b]? = some (.cells cells T (0, 0)) ∧ cells.size = c * E.sz ∧
    ∃ rest, cells.toList = xs.flatMap E.enc ++ rest)

theorem Own.nil (T : TypeId) (B : Nat) (h : Heap) : Own E T B h none 0 0 [] := ⟨rfl, Nat.le_refl _, .inl ⟨rfl, rfl⟩⟩
theorem Own.block {T : TypeId} {B : Nat} {h : Heap} {a : Option Addr} {n c : Nat} {xs : List α} (ho : Own E T B h a n c xs) : ∀ b, blk a b → B ≤ b ∧ b < h.size := by
  rintro b ⟨p, rfl, rfl⟩
  rcases ho.2.2 with ⟨e, _⟩ | ⟨b, cells, e, hB, hb, _⟩
  · cases e
  · cases e
    refine ⟨hB, ?_⟩
    by_cases hlt : b < h.size
    · exact hlt
    · rw [Array.getElem?_eq_none (by omega)] at hb; cases hb
theorem flat_get (xs : List α) : ∀ {i : Nat} {x : α} {j : Nat} {v : Value}, xs[i]? = some x → (E.enc x)[j]? = some v → (xs.flatMap E.enc)[i * E.sz + j]? = some v := by
  induction xs with
  | nil => intro i x j v h; simp at h
  | cons y ys ih =>
    intro i x j v hx hv
    cases i with
    | zero =>
      simp at hx; subst hx
      rw [List.flatMap_cons, Nat.zero_mul, Nat.zero_add]
      have hj := (List.getElem?_eq_some_iff.1 hv).1
      rw [List.getElem?_append_left hj]; exact hv
    | succ i =>
      have := ih (i := i) (x := x) (j := j) (v := v) (by simpa using hx) hv
      rw [List.flatMap_cons, List.getElem?_append_right (by rw [E.len, Nat.add_mul]; omega), E.len,
        show (i + 1) * E.sz + j - E.sz = i * E.sz + j by rw [Nat.add_mul]; omega]
      exact this
theorem flat_len (xs : List α) : (xs.flatMap E.enc).length = xs.length * E.sz := by
  induction xs with
  | nil => simp
  | cons x xs ih => simp [List.flatMap_cons, E.len, ih, Nat.add_mul]; omega
theorem Own.sl {T : TypeId} {B : Nat} {h : Heap} {a : Option Addr} {n c : Nat} {xs : List α} (ho : Own E T B h a n c xs) : Sl E h a n xs := by
  obtain ⟨hl, hc, hr⟩ := ho
  refine ⟨hl, ?_⟩
  rcases hr with ⟨rfl, rfl⟩ | ⟨b, cells, rfl, hB, hb, hsz, rest, hrest⟩
  · exact .inl (List.eq_nil_of_length_eq_zero (by omega))
  · refine .inr ⟨_, rfl, fun i x hx j v hv => ?_⟩
    have hf := flat_get (E := E) xs hx hv
    have hlt := (List.getElem?_eq_some_iff.1 hf).1
    rw [Addr.add_row]
    unfold cell
    simp only [hb, Option.isSome_none, Bool.false_eq_true, if_false, Nat.zero_add]
    rw [← Array.getElem?_toList, hrest, List.getElem?_append_left hlt]
    exact hf
theorem Own.upd {T : TypeId} {B : Nat} {h h' : Heap} {a : Option Addr} {n c : Nat} {xs : List α} {S : Nat → Prop} (ho : Own E T B h a n c xs) (u : Upd S h h') (hs : ∀ b, blk a b → ¬ S b) :
    Own E T B h' a n c xs := by
  obtain ⟨hl, hc, hr⟩ := ho
  refine ⟨hl, hc, hr.imp id ?_⟩
  rintro ⟨b, cells, rfl, hB, hb, rest⟩
  have hlt : b < h.size := by
    by_cases hlt : b < h.size
    · exact hlt
    · rw [Array.getElem?_eq_none (by omega)] at hb; cases hb
  exact ⟨b, cells, rfl, hB, by rw [u.block b hlt (hs b ⟨_, rfl, rfl⟩)]; exact hb, rest⟩
end

/- ------------------------------------------------------------------ writing into a row -/

theorem setCell_heap (w : World) (b o : Nat) (v : Value) : (w.setCell ⟨b, o, none⟩ v).heap = w.heap.modify b fun
    | .cells c elem frozen => .cells (c.setIfInBounds o v) elem frozen
    | x => x := by
  have e : (fun x : Obj => match x with | .cells c elem frozen => Obj.cells (if (⟨b, o, none⟩ : Addr).spot.isSome then c else c.setIfInBounds o v) elem frozen | x => x) =
      (fun x : Obj => match x with | .cells c elem frozen => Obj.cells (c.setIfInBounds o v) elem frozen | x => x) := by
    funext x; cases x <;> rfl
  exact congrArg (w.heap.modify b) e

theorem run_storeCells {P : Program} (b T : Nat) : ∀ (vs : List Value) (o : Nat) (cells : Array Value) (w : World) (i : Nat), w.heap[b]? = some (.cells cells T (0, 0)) → o + i + vs.length ≤ cells.size →
    (∀ v ∈ vs, (∀ c, v ≠ .agg c) ∧ (∀ c, v ≠ .tuple c)) →
    ∃ w' cells', (storeCells ⟨b, o, none⟩ vs i).run P w = .ok () w' ∧ Sane w w' ∧ w'.heap.size = w.heap.size ∧ w'.heap[b]? = some (.cells cells' T (0, 0)) ∧ cells'.size = cells.size ∧
      cells'.toList = putL cells.toList (o + i) vs ∧ ∀ k, k ≠ b → w'.heap[k]? = w.heap[k]?
  | [], o, cells, w, i, hb, hl, hv => ⟨w, cells, rfl, Sane.refl w, rfl, hb, rfl, rfl, fun _ _ => rfl⟩
  | v :: vs, o, cells, w, i, hb, hl, hv => by
    simp only [List.length_cons] at hl
    have hlt : b < w.heap.size := by
      by_cases hlt : b < w.heap.size
      · exact hlt
      · rw [Array.getElem?_eq_none (by omega)] at hb; cases hb
    have hcell : w.cell? ⟨b, o + i, none⟩ = some (cells[o + i]'(by omega)) := by
      unfold World.cell?
      simp only [hb, Option.isSome_none, Bool.false_eq_true, if_false]
      rw [Array.getElem?_eq_getElem (by omega)]
    have hfr : w.frozen? ⟨b, o + i, none⟩ = false := by unfold World.frozen?; simp [hb]
    have hst : (store ⟨b, o + i, none⟩ v).run P w = .ok () (w.setCell ⟨b, o + i, none⟩ v) := by
      have h1 := hv v List.mem_cons_self
      unfold store
      cases v <;> first
        | exact absurd rfl (h1.1 _)
        | exact absurd rfl (h1.2 _)
        | simp [Sem.run, hcell, hfr]
    have hb' : (w.setCell ⟨b, o + i, none⟩ v).heap[b]? = some (.cells (cells.setIfInBounds (o + i) v) T (0, 0)) := by
      rw [setCell_heap, Array.getElem?_modify, if_pos rfl, hb, Option.map_some]
    obtain ⟨w', cells', h1, h2, h3, h4, h5, h6, h7⟩ := run_storeCells (P := P) b T vs o (cells.setIfInBounds (o + i) v) (w.setCell ⟨b, o + i, none⟩ v) (i + 1) hb' (by simp; omega) (fun u hu => hv u (List.mem_cons_of_mem _ hu))
    refine ⟨w', cells', ?_, ?_, ?_, h4, ?_, ?_, fun k hk => ?_⟩
    · simp only [storeCells, Addr.add_row, Sem.run_bind, hst, Result.andThen_ok]; exact h1
    · exact Sane.trans (b := w.setCell ⟨b, o + i, none⟩ v) (Sane.turn hb rfl (by simp [World.setCell]) (fun k _ hk => by rw [setCell_heap, Array.getElem?_modify, if_neg (Ne.symm hk)])) h2
    · rw [h3]; simp [World.setCell]
    · rw [h5]; simp
    · rw [h6]; simp [putL, Nat.add_assoc]
    · rw [h7 k hk, setCell_heap, Array.getElem?_modify, if_neg (Ne.symm hk)]

theorem putL_len : ∀ (vs cs : List Value) (k : Nat), (putL cs k vs).length = cs.length
  | [], _, _ => rfl
  | v :: vs, cs, k => by simp [putL, putL_len vs]
theorem putL_prefix : ∀ (vs xs rest : List Value), vs.length ≤ rest.length → putL (xs ++ rest) xs.length vs = xs ++ vs ++ rest.drop vs.length
  | [], xs, rest, _ => by simp [putL]
  | v :: vs, xs, [], h => by simp at h
  | v :: vs, xs, r :: rest, h => by
    simp only [putL]
    rw [List.set_append_right _ _ (Nat.le_refl _), Nat.sub_self, List.set_cons_zero, show xs ++ v :: rest = (xs ++ [v]) ++ rest by simp,
      show xs.length + 1 = (xs ++ [v]).length by simp, putL_prefix vs (xs ++ [v]) rest (by simpa using h)]
    simp

/- ------------------------------------------------------------------ a slice's literal; append -/

def zerosL (z : List Value) (n : Nat) : List Value := (List.range n).map fun i => z.getD (i % z.length) default
/-- the cells of a slice's literal. -/
def bsCells (P : Program) (t : TypeId) (n : Nat) (parts : List (Nat × Value)) : Option (TypeId × List Value) :=
  match P.underlying t with
  | some (.slice e) => match szOf P e, (P.info? e).bind (·.zero) with
    | some sz, some z => match Nat.ble (n * sz) 4096 && !(Nat.beq (n * sz) 0) with
      | true => match fillL (fun i => some (i * sz, sz)) (zerosL z.cells.toList (n * sz)) parts with
        | some cs => some (e, cs)
        | none => none
      | false => none
    | _, _ => none
  | _ => none
theorem svc_buildSlice {P : Program} {t : TypeId} {n : Nat} {parts : List (Nat × Value)} {e : TypeId} {cs : List Value} {h : Heap} {K : Value → Heap → Prop}
    (hb : bsCells P t n parts = some (e, cs)) (k : K (.slice (some ⟨h.size, 0, none⟩) n n) (h.push (.cells cs.toArray e (0, 0)))) :
    SVC P (Instr.buildSlice t n parts.toArray) h K := by
  refine ⟨fun w hw => ?_⟩
  subst hw
  unfold bsCells at hb
  cases hu : P.underlying t with
  | none => simp [hu] at hb
  | some d =>
    cases d <;> simp only [hu] at hb <;> try (cases hb; done)
    case slice e' =>
      cases hs : szOf P e' with
      | none => simp [hs] at hb
      | some sz =>
        cases hi : P.info? e' with
        | none => simp [hs, hi] at hb
        | some inf =>
          cases hz : inf.zero with
          | none => simp [hs, hi, hz] at hb
          | some z =>
            simp only [hs, hi, hz, Option.bind_some] at hb
            cases hc : Nat.ble (n * sz) 4096 && !(Nat.beq (n * sz) 0) with
            | false => simp [hc] at hb
            | true =>
              simp only [hc] at hb
              simp only [Bool.and_eq_true, Bool.not_eq_true'] at hc
              have h1 := Nat.le_of_ble_eq_true hc.1
              have h2 := Nat.ne_of_beq_eq_false hc.2
              cases hf : fillL (fun i => some (i * sz, sz)) (zerosL z.cells.toList (n * sz)) parts with
              | none => simp [hf] at hb
              | some cs' =>
                simp only [hf, Option.some.injEq, Prod.mk.injEq] at hb
                obtain ⟨rfl, rfl⟩ := hb
                have hz0 : ((Array.range (n * sz)).map (z.cells[· % z.cells.size]!)) = (zerosL z.cells.toList (n * sz)).toArray := by
                  apply Array.toList_inj.1
                  simp only [Array.toList_map, Array.toList_range, zerosL]
                  refine List.map_congr_left fun i _ => ?_
                  simp [getElem!_def, List.getD_eq_getElem?_getD]
                  cases z.cells[i % z.cells.size]? <;> rfl
                have hfill := fillL_eq (place' := fun i => some (i * sz, sz)) (fun _ => rfl) hf
                refine ⟨.slice (some ⟨w.heap.size, 0, none⟩) n n, { w with heap := w.heap.push (.cells cs'.toArray e' (0, 0)) }, ?_, Sane.push rfl, k⟩
                · simp only [Instr.buildSlice, Sem.run_bind, run_underlying hu, Result.andThen_ok, run_szOf hs]
                  rw [if_neg (by omega)]
                  have hzv : (zeroValue e').run P w = .ok z w := by simp [zeroValue, typeInfo, hi, hz]
                  simp only [if_neg h2, Sem.run_bind, hzv, Result.andThen_ok, Sem.run_pure, hz0, hfill]
                  rfl

/-- what is known of an append's types. -/
structure App (P : Program) (T e : TypeId) (sz by_ : Nat) (z : Value) : Prop where
  und : P.underlying T = some (.slice e)
  size : szOf P e = some sz
  bytes : (P.info? e).map (·.bytes) = some by_
  zero : (P.info? e).bind (·.zero) = some z
  zlen : z.cells.size = sz
  pos : 0 < sz
  bpos : 0 < by_

theorem nextcap (n c : Nat) (hc : c < n) : ∀ r k, k ≤ 2 * n → Builtin.growBy n r k ≤ 2 * n + 192 + n / 4 + n
  | 0, k, h => by simp [Builtin.growBy]; omega
  | r + 1, k, h => by
    simp only [Builtin.growBy]
    split
    · omega
    · rename_i hk
      have : k < n := by omega
      by_cases h2 : k + (k + 768) / 4 ≤ 2 * n
      · exact nextcap n c hc r _ h2
      · cases r with
        | zero => simp [Builtin.growBy]; omega
        | succ r => simp only [Builtin.growBy]; rw [if_pos (by omega)]; omega
theorem nextslicecap_le (n c : Nat) (hc : c < n) : Builtin.nextslicecap n c ≤ 4 * n + 192 := by
  unfold Builtin.nextslicecap
  split
  · omega
  · split
    · omega
    · have := nextcap n c hc 4 c (by omega)
      omega

theorem svc_append {α : Type} {E : Enc α} {P : Program} {T e : TypeId} {bytes : Nat} {z : Value} {B : Nat} {h : Heap} {a b : Option Addr} {n c m c2 : Nat} {xs ys : List α} {ty : TypeId} {K : Value → Heap → Prop}
    (hA : App P T e E.sz bytes z) (ho : Own E e B h a n c xs) (hB : B ≤ h.size) (hs : Sl E h b m ys) (hroom : (4 * (n + m) + 192) * bytes ≤ 2 ^ 48)
    (k : ∀ a' c' h', Own E e B h' a' (n + m) c' (xs ++ ys) → Upd (blk a) h h' → (∀ i, blk a' i → blk a i ∨ i = h.size) → K (.slice a' (n + m) c') h') :
    SVC P (Builtin.append_ #[T, T] ty #[.slice a n c, .slice b m c2]) h K := by
  refine ⟨fun w hw => ?_⟩
  subst hw
  obtain ⟨hu, hsz, hby, hze, hzl, hpos, hbpos⟩ := hA
  have hsizeOf := fun w : World => run_szOf (P := P) hsz w
  have hti : ∀ w : World, ∃ i, P.info? e = some i ∧ (typeInfo e).run P w = .ok i w ∧ i.bytes = bytes ∧ i.zero = some z := fun w => by
    cases hi : P.info? e with
    | none => simp [hi] at hby
    | some i => simp [hi] at hby hze; exact ⟨i, rfl, by simp [typeInfo, hi], hby, hze⟩
  have hzero : ∀ w : World, (zeroValue e).run P w = .ok z w := fun w => by
    obtain ⟨i, h1, h2, h3, h4⟩ := hti w
    simp [zeroValue, h2, h4]
  have hysl : (ys.flatMap E.enc).length = m * E.sz := by rw [flat_len, hs.1]
  -- what is read of the second
  have hread : (Builtin.firstCells E.sz m (.slice b m c2)).run P w = .ok (ys.flatMap E.enc).toArray w := by
    rcases hs.2 with rfl | ⟨p, rfl, hp⟩
    · have hm : m = 0 := by have := hs.1; simpa using this.symm
      subst hm
      cases b <;> simp [Builtin.firstCells, loadCells, loadCellsFrom]
    · simp only [Builtin.firstCells]
      refine run_loadCells hysl fun j v hv => ?_
      -- which element
      have hj : j < m * E.sz := by rw [← hysl]; exact (List.getElem?_eq_some_iff.1 hv).1
      have hi : j / E.sz < ys.length := by rw [hs.1]; exact Nat.div_lt_of_lt_mul (by rw [Nat.mul_comm]; exact hj)
      have hr : j % E.sz < E.sz := Nat.mod_lt _ hpos
      have hx : ys[j / E.sz]? = some ys[j / E.sz] := List.getElem?_eq_getElem hi
      have hlen := E.len ys[j / E.sz]
      have hvj : (E.enc ys[j / E.sz])[j % E.sz]? = some ((E.enc ys[j / E.sz])[j % E.sz]'(by omega)) := List.getElem?_eq_getElem (by omega)
      have hf := flat_get ys hx hvj
      rw [Nat.mul_comm, Nat.div_add_mod] at hf
      rw [hv] at hf
      have := hp _ _ hx _ _ hvj
      rw [Nat.mul_comm, Nat.div_add_mod] at this
      rw [this, ← hf]
  have hone : ∀ v ∈ ys.flatMap E.enc, (∀ c, v ≠ .agg c) ∧ (∀ c, v ≠ .tuple c) := fun v hv => by
    obtain ⟨x, _, hx⟩ := List.mem_flatMap.1 hv
    exact E.one x v hx
  obtain ⟨hl, hnc, hr⟩ := ho
  by_cases hfit : n + m ≤ c
  · rcases hr with ⟨rfl, rfl⟩ | ⟨bb, cells, rfl, hBb, hbb, hcs, rest, hrest⟩
    · have hm : m = 0 := by omega
      have hn : n = 0 := by omega
      subst hm; subst hn
      have hxs : xs = [] := List.eq_nil_of_length_eq_zero hl
      have hys : ys = [] := List.eq_nil_of_length_eq_zero hs.1
      subst hxs; subst hys
      exact ⟨.slice none 0 0, w, by simp [Builtin.append_, run_underlying hu, hsizeOf, Builtin.lenOf, hread], Sane.refl w, k _ _ _ ⟨rfl, Nat.le_refl _, .inl ⟨rfl, rfl⟩⟩ (Upd.refl _ _) (fun i hi => .inl hi)⟩
    · have hxl : (xs.flatMap E.enc).length = n * E.sz := by rw [flat_len, hl]
      have hcl : cells.toList.length = c * E.sz := by simpa using hcs
      have hrl : rest.length = c * E.sz - n * E.sz := by
        have := congrArg List.length hrest
        rw [hcl, List.length_append, hxl] at this; omega
      have hmul : (n + m) * E.sz ≤ c * E.sz := Nat.mul_le_mul_right _ hfit
      rw [Nat.add_mul] at hmul
      obtain ⟨w', cells', h1, h2, h3, h4, h5, h6, h7⟩ := run_storeCells (P := P) bb e (ys.flatMap E.enc) (n * E.sz) cells w 0 hbb (by rw [hysl, hcs]; omega) hone
      refine ⟨_, w', ?_, h2, k _ _ _ ⟨by simp [hl, hs.1], hfit, .inr ⟨bb, cells', rfl, hBb, h4, by rw [h5, hcs], rest.drop (ys.flatMap E.enc).length, ?_⟩⟩
        ⟨by rw [h3]; exact Nat.le_refl _, fun i hi hs => h7 i fun e => hs ⟨_, rfl, e.symm⟩⟩ (fun i hi => .inl hi)⟩
      · simp [Builtin.append_, run_underlying hu, hsizeOf, Builtin.lenOf, hread, hfit, Addr.add_row, h1]
      · rw [h6, hrest, Nat.add_zero, ← hxl, putL_prefix _ _ _ (by rw [hysl, hrl]; omega), List.flatMap_append]
  · obtain ⟨inf, i1, i2, i3, i4⟩ := hti w
    have hcap := nextslicecap_le (n + m) c (by omega)
    have hle : Builtin.nextslicecap (n + m) c * bytes ≤ 2 ^ 48 := Nat.le_trans (Nat.mul_le_mul_right _ hcap) hroom
    have hold : ∀ w' : World, w'.heap = w.heap → (Builtin.firstCells E.sz n (.slice a n c)).run P w' = .ok (xs.flatMap E.enc).toArray w' := by
      intro w' hw'
      have hxl : (xs.flatMap E.enc).length = n * E.sz := by rw [flat_len, hl]
      rcases hr with ⟨rfl, rfl⟩ | ⟨bb, cells, rfl, hBb, hbb, hcs, rest, hrest⟩
      · have hn : n = 0 := by omega
        subst hn
        have hxs : xs = [] := List.eq_nil_of_length_eq_zero hl
        subst hxs
        simp [Builtin.firstCells]
      · simp only [Builtin.firstCells]
        refine run_loadCells hxl fun j v hv => ?_
        have hlt := (List.getElem?_eq_some_iff.1 hv).1
        rw [Addr.add_row, hw']
        unfold cell
        simp only [hbb, Option.isSome_none, Bool.false_eq_true, if_false, Nat.zero_add]
        rw [← Array.getElem?_toList, hrest, List.getElem?_append_left hlt]; exact hv
    have hread' : ∀ w' : World, w'.heap = w.heap → (Builtin.firstCells E.sz m (.slice b m c2)).run P w' = .ok (ys.flatMap E.enc).toArray w' := by
      intro w' hw'
      rcases hs.2 with rfl | ⟨p, rfl, hp⟩
      · have hm : m = 0 := by have := hs.1; simpa using this.symm
        subst hm
        cases b <;> simp [Builtin.firstCells, loadCells, loadCellsFrom]
      · simp only [Builtin.firstCells]
        refine run_loadCells hysl fun j v hv => ?_
        rw [hw']
        have hj : j < m * E.sz := by rw [← hysl]; exact (List.getElem?_eq_some_iff.1 hv).1
        have hi : j / E.sz < ys.length := by rw [hs.1]; exact Nat.div_lt_of_lt_mul (by rw [Nat.mul_comm]; exact hj)
        have hr : j % E.sz < E.sz := Nat.mod_lt _ hpos
        have hx : ys[j / E.sz]? = some ys[j / E.sz] := List.getElem?_eq_getElem hi
        have hlen := E.len ys[j / E.sz]
        have hvj : (E.enc ys[j / E.sz])[j % E.sz]? = some ((E.enc ys[j / E.sz])[j % E.sz]'(by omega)) := List.getElem?_eq_getElem (by omega)
        have hf := flat_get ys hx hvj
        rw [Nat.mul_comm, Nat.div_add_mod] at hf
        rw [hv] at hf
        have := hp _ _ hx _ _ hvj
        rw [Nat.mul_comm, Nat.div_add_mod] at this
        rw [this, ← hf]
    let q : Question := .appendCap (n + m) c e
    let cap := q.cut (w.tape w.drawn q)
    let wd : World := { w with drawn := w.drawn + 1 }
    have hch : (choose q).run P w = .ok cap wd := rfl
    have hcge : n + m ≤ cap := by show n + m ≤ (n + m) + _; omega
    have hz0 : Builtin.zeroCells z.cells (cap - (n + m)) = (Builtin.zeroCells z.cells (cap - (n + m))) := rfl
    have hzlen : (Builtin.zeroCells z.cells (cap - (n + m))).size = (cap - (n + m)) * E.sz := by simp [Builtin.zeroCells, hzl]
    refine ⟨.slice (some ⟨w.heap.size, 0, none⟩) (n + m) cap, { wd with heap := w.heap.push (.cells ((xs.flatMap E.enc).toArray ++ (ys.flatMap E.enc).toArray ++ Builtin.zeroCells z.cells (cap - (n + m))) e) }, ?_, Sane.push rfl, ?_⟩
    · have hbz : inf.bytes = bytes := i3
      have g1 : ∀ w' : World, (typeInfo e).run P w' = .ok inf w' := fun w' => by
        obtain ⟨i', j1, j2, _, _⟩ := hti w'
        rw [i1] at j1; cases j1; exact j2
      have hle' : ¬ (281474976710656 < Builtin.nextslicecap (n + m) c * inf.bytes) := by rw [hbz]; omega
      have hnb : inf.bytes ≠ 0 := by omega
      have hforced : (Question.appendCap (n + m) c e).forced = false := rfl
      have hold' := hold w.drew rfl
      have hread2 := hread' w.drew rfl
      simp [Builtin.append_, run_underlying hu, hsizeOf, Builtin.lenOf, hfit, g1, hle', hnb, hforced, hold', hread2, hzero, newRow]
      refine ⟨rfl, ?_⟩
      show ({ w with heap := _, drawn := _ } : World) = _
      congr 2
      simp only [cap, q, ← Array.append_assoc, List.append_toArray]
    · have hsz' : ((xs.flatMap E.enc).toArray ++ (ys.flatMap E.enc).toArray ++ Builtin.zeroCells z.cells (cap - (n + m))).size = cap * E.sz := by
        simp only [Array.size_append, hzlen, List.size_toArray, flat_len, hl, hs.1]
        rw [← Nat.add_mul, ← Nat.add_mul, Nat.add_sub_cancel' hcge]
      refine k _ _ _ ⟨by simp [hl, hs.1], hcge, .inr ⟨w.heap.size, _, rfl, hB, push_at _ _, hsz', (Builtin.zeroCells z.cells (cap - (n + m))).toList, ?_⟩⟩
        ((Keep.push w.heap.size w.heap _ (Nat.le_refl _)).upd _) (fun i ⟨p, e, hp⟩ => .inr (by cases e; exact hp.symm))
      simp [List.flatMap_append]

/- ------------------------------------------------------------------ a box of the call's own -/

theorem cell_push (h : Heap) (c : Array Value) (T : TypeId) (o : Nat) : cell (h.push (.cells c T (0, 0))) ⟨h.size, o, none⟩ = c[o]? := by
  unfold cell; simp
theorem cell_at {h : Heap} {b : Nat} {c : Array Value} {T : TypeId} {f : Nat × Nat} (hb : h[b]? = some (.cells c T f)) (o : Nat) : cell h ⟨b, o, none⟩ = c[o]? := by
  unfold cell; simp [hb]
def oneCells (vs : List Value) : Prop := ∀ v ∈ vs, (∀ c, v ≠ .agg c) ∧ (∀ c, v ≠ .tuple c)
theorem putL_all : ∀ (vs cs : List Value), cs.length = vs.length → putL cs 0 vs = vs := by
  intro vs cs h
  have := putL_prefix vs [] cs (by omega)
  simp at this
  rw [this]; simp; omega
/-- a whole variable of the call's own is written. -/
theorem svc_store_own {P : Program} {t T b : Nat} {h : Heap} {old : Array Value} {v : Value} {K : Unit → Heap → Prop} (hsz : szOf P t = some v.cells.size) (hb : h[b]? = some (.cells old T (0, 0)))
    (hlen : old.size = v.cells.size) (hone : oneCells v.cells.toList)
    (k : ∀ h', h'.size = h.size → h'[b]? = some (.cells v.cells T (0, 0)) → (∀ i, i ≠ b → h'[i]? = h[i]?) → K () h') : SVC P (Instr.storeAt t (.pointer (some ⟨b, 0, none⟩)) v) h K := by
  refine ⟨fun w hw => ?_⟩
  subst hw
  obtain ⟨w', cells', h1, h2, h3, h4, h5, h6, h7⟩ := run_storeCells (P := P) b T v.cells.toList 0 old w 0 hb (by simp [hlen]) hone
  refine ⟨(), w', ?_, h2, k _ h3 ?_ h7⟩
  · simp only [Instr.storeAt, Instr.sureAddr, Sem.run_bind, Sem.run_pure, Result.andThen_ok, storeVar, run_szOf hsz, ne_eq, not_true, if_false]
    exact h1
  · rw [h4]
    have : cells'.toList = v.cells.toList := by
      rw [h6, Nat.add_zero, putL_all]; simp [hlen]
    rw [Array.toList_inj.1 this]
theorem svc_store_new {P : Program} {t T : TypeId} {h : Heap} {old : Array Value} {v : Value} {K : Unit → Heap → Prop} (hsz : szOf P t = some v.cells.size) (hlen : old.size = v.cells.size)
    (hone : oneCells v.cells.toList) (k : K () (h.push (.cells v.cells T (0, 0)))) :
    SVC P (Instr.storeAt t (.pointer (some ⟨h.size, 0, none⟩)) v) (h.push (.cells old T (0, 0))) K := by
  refine svc_store_own hsz (push_at _ _) hlen hone fun h' e1 e2 e3 => ?_
  have : h' = h.push (.cells v.cells T (0, 0)) := by
    apply Array.ext_getElem?
    intro i
    by_cases hi : i = h.size
    · subst hi; rw [e2, push_at]
    · rw [e3 i hi, Array.getElem?_push, Array.getElem?_push, if_neg hi, if_neg hi]
  rw [this]; exact k
theorem Keep.of_push {B : Nat} {h h1 : Heap} (k : Keep B h h1) (hB : B ≤ h1.size) (o : Obj) : Keep B h (h1.push o) := k.trans (Keep.push B h1 o hB)
theorem wrap_i64 {n : Int} (h0 : -9223372036854775808 ≤ n) (h1 : n < 9223372036854775808) : IntKind.i64.wrap n = n := by
  unfold IntKind.wrap IntKind.signed IntKind.bits
  simp only [Bool.true_and]
  split
  · rename_i h; simp at h; omega
  · rename_i h; simp at h; omega
theorem one_string (s : ByteArray) : (∀ c, Value.string s ≠ .agg c) ∧ (∀ c, Value.string s ≠ .tuple c) := ⟨fun _ h => (by cases h), fun _ h => (by cases h)⟩
theorem one_bool (s : Bool) : (∀ c, Value.bool s ≠ .agg c) ∧ (∀ c, Value.bool s ≠ .tuple c) := ⟨fun _ h => (by cases h), fun _ h => (by cases h)⟩
theorem one_int (k : IntKind) (s : Int) : (∀ c, Value.int k s ≠ .agg c) ∧ (∀ c, Value.int k s ≠ .tuple c) := ⟨fun _ h => (by cases h), fun _ h => (by cases h)⟩
theorem one_slice (a : Option Addr) (n c : Nat) : (∀ x, Value.slice a n c ≠ .agg x) ∧ (∀ x, Value.slice a n c ≠ .tuple x) := ⟨fun _ h => (by cases h), fun _ h => (by cases h)⟩
theorem one_map (a : Option Nat) : (∀ x, Value.map a ≠ .agg x) ∧ (∀ x, Value.map a ≠ .tuple x) := ⟨fun _ h => (by cases h), fun _ h => (by cases h)⟩
theorem one_pointer (a : Option Addr) : (∀ x, Value.pointer a ≠ .agg x) ∧ (∀ x, Value.pointer a ≠ .tuple x) := ⟨fun _ h => (by cases h), fun _ h => (by cases h)⟩

/- ------------------------------------------------------------------ '==' of structs of strings, bools and numbers -/

def eqSc : Option TypeDesc → Value → Value → Option Bool
  | some .string, .string a, .string b => some (a.toList == b.toList)
  | some .bool, .bool a, .bool b => some (a == b)
  | some (.int _), .int k a, .int k' b => match eqKind k k' with | true => some (a == b) | false => none
  | _, _, _ => none
def eqFl (P : Program) (xs ys : List Value) : List Field → Option Bool
  | [] => some true
  | f :: fs => match f.name == "_", aggT P f.type, xs[f.offset]?, ys[f.offset]? with
    | false, false, some a, some b => match eqSc (P.underlying f.type) a b, eqFl P xs ys fs with
      | some r, some s => some (r && s)
      | _, _ => none
    | _, _, _, _ => none
theorem run_eqSc {P : Program} {t : TypeId} {a b : Value} {r : Bool} (h : eqSc (P.underlying t) a b = some r) (d : Nat) (w : World) : (Op.equalIn (d + 1) t a b).run P w = .ok r w := by
  cases hu : P.underlying t with
  | none => rw [hu] at h; simp [eqSc] at h
  | some u =>
    rw [hu] at h
    cases u <;> cases a <;> cases b <;> simp only [eqSc, Option.some.injEq, reduceCtorEq] at h
    · subst h; exact run_equalIn_bool w d t _ _ hu
    · rename_i k _ _ k' _
      cases hk : eqKind _ _ with
      | false => rw [hk] at h; cases h
      | true =>
        rw [hk] at h
        obtain rfl := eqKind_eq hk
        cases h
        exact run_equalIn_int w d t _ _ _ _ hu
    · subst h; exact run_equalIn_string w d t _ _ hu
theorem run_eqFl {P : Program} {xs ys : Array Value} (d : Nat) (w : World) : ∀ {fs : List Field} {r : Bool}, eqFl P xs.toList ys.toList fs = some r → (Op.eqFields (d + 1) xs ys fs).run P w = .ok r w
  | [], r, h => by simp [eqFl] at h; subst h; rfl
  | f :: fs, r, h => by
    simp only [eqFl] at h
    cases hn : f.name == "_" with
    | true => simp [hn] at h
    | false =>
      cases ha : aggT P f.type with
      | true => simp [hn, ha] at h
      | false =>
        cases hx : xs.toList[f.offset]? with
        | none => simp [hn, ha, hx] at h
        | some a =>
          cases hy : ys.toList[f.offset]? with
          | none => simp [hn, ha, hx, hy] at h
          | some b =>
            simp only [hn, ha, hx, hy] at h
            cases he : eqSc (P.underlying f.type) a b with
            | none => simp [he] at h
            | some r1 =>
              cases hf : eqFl P xs.toList ys.toList fs with
              | none => simp [he, hf] at h
              | some r2 =>
                simp only [he, hf, Option.some.injEq] at h
                subst h
                have hund : P.underlying f.type ≠ none := fun e => by rw [e] at he; simp [eqSc] at he
                have hag : (isAgg f.type).run P w = .ok false w := by
                  unfold aggT at ha
                  cases hu : P.underlying f.type with
                  | none => exact absurd hu hund
                  | some u => rw [hu] at ha; cases u <;> simp_all [isAgg, run_underlying hu]
                rw [Array.getElem?_toList] at hx hy
                have p1 : (part f.type xs f.offset).run P w = .ok a w := by simp [part, hag, hx]
                have p2 : (part f.type ys f.offset).run P w = .ok b w := by simp [part, hag, hy]
                have hn' : f.name ≠ "_" := by simpa using hn
                simp only [Op.eqFields, if_pos hn', Sem.run_bind, p1, p2, Result.andThen_ok, run_eqSc he d w]
                cases r1
                · simp
                · simpa using run_eqFl d w hf
/-- the fields of a struct type whose values may be compared field by field. -/
def flatS (P : Program) (t : TypeId) (fs : List Field) : Bool :=
  match P.underlying t with
  | some (.struct gs) => !(P.stoodInHeld t) && !(P.eqGuardType P.depth t) && decide (gs.toList.map (fun f => (f.name, f.type, f.offset)) = fs.map fun f => (f.name, f.type, f.offset))
  | _ => false
structure Flat (P : Program) (t : TypeId) (gs : Array Field) : Prop where
  und : P.underlying t = some (.struct gs)
  held : P.stoodInHeld t = false
  guard : P.eqGuardType P.depth t = false
theorem reads_eq {P : Program} {t : TypeId} {gs : Array Field} {xs ys : Array Value} {r : Bool} {h : Heap} {x y : Operand} (hf : Flat P t gs) (he : eqFl P xs.toList ys.toList gs.toList = some r) :
    Reads P (eqSem .eql t x y (.agg xs) (.agg ys)) h (.bool r) ∧ Reads P (eqSem .neq t x y (.agg xs) (.agg ys)) h (.bool !r) := by
  have run : ∀ w : World, (Op.equal t (.agg xs) (.agg ys)).run P w = .ok r w := fun w => by
    have hfo : P.fieldsOf t = gs := by simp [Program.fieldsOf, hf.und]
    unfold Op.equal Op.maxDepth
    rw [run_equalIn_struct (P := P) w 9999 t xs ys (by rw [hfo]; exact hf.und) hf.held, hfo]
    exact run_eqFl 9998 w he
  have g : ∀ (w : World) op, (eqGuard op t x y (.agg xs) (.agg ys)).run P w = .ok () w := fun w op => by
    cases op <;> first | rfl | simp [eqGuard, hf.guard]
  constructor <;> refine ⟨fun w _ => ?_⟩ <;> simp [eqSem, g, binOp, run]

theorem Upd.at {S : Nat → Prop} {h h' : Heap} {b : Nat} {o : Obj} (u : Upd S h h') (hb : h[b]? = some o) (hs : ¬ S b) : h'[b]? = some o := by
  have hlt : b < h.size := by
    by_cases hlt : b < h.size
    · exact hlt
    · rw [Array.getElem?_eq_none (by omega)] at hb; cases hb
  rw [u.block b hlt hs]; exact hb
theorem Keep.at {B : Nat} {h h' : Heap} {b : Nat} {o : Obj} (u : Keep B h h') (hb : h[b]? = some o) (hs : b < B) : h'[b]? = some o := by
  rw [u.block b hs]; exact hb
theorem at_lt {h : Heap} {b : Nat} {o : Obj} (hb : h[b]? = some o) : b < h.size := by
  by_cases hlt : b < h.size
  · exact hlt
  · rw [Array.getElem?_eq_none (by omega)] at hb; cases hb
theorem Upd.push {S : Nat → Prop} {h h1 : Heap} (u : Upd S h h1) (o : Obj) : Upd S h (h1.push o) :=
  u.trans ((Keep.push h1.size h1 o (Nat.le_refl _)).upd S)

/-- one element appended to a slice of the call's own. -/
theorem svc_append1 {α : Type} {E : Enc α} {P : Program} {T e : TypeId} {bytes : Nat} {z : Value} {B : Nat} {h : Heap} {a : Option Addr} {n c : Nat} {xs : List α} {x : α} {v : Value} {ty : TypeId}
    {K : Option Addr → Nat → Nat → Heap → Prop} (hA : App P T e E.sz bytes z) (ho : Own E e B h a n c xs) (hB : B ≤ h.size) (hb : bsCells P T 1 [(0, v)] = some (e, E.enc x))
    (hroom : (4 * (n + 1) + 192) * bytes ≤ 2 ^ 48)
    (k : ∀ a' c' h', Own E e B h' a' (n + 1) c' (xs ++ [x]) → Upd (blk a) h h' → (∀ i, blk a' i → blk a i ∨ h.size ≤ i) → K a' (n + 1) c' h') :
    SVC P (Instr.buildSlice T 1 (Array.mk [(0, v)])) h fun v18 h19 => ∃ (a20 : Option Addr), ∃ (k21 : Nat), ∃ (k22 : Nat), v18 = Value.slice a20 k21 k22 ∧
      SVC P (Builtin.append_ (Array.mk [T, T]) ty (Array.mk [Value.slice a n c, Value.slice a20 k21 k22])) h19 fun v23 h24 => ∃ (a25 : Option Addr), ∃ (k26 : Nat), ∃ (k27 : Nat), v23 = Value.slice a25 k26 k27 ∧ K a25 k26 k27 h24 := by
  refine svc_buildSlice hb ⟨_, _, _, rfl, ?_⟩
  have u0 : Upd (blk a) h (h.push (.cells (E.enc x).toArray e (0, 0))) := (Upd.refl _ h).push _
  have own1 : Own E e B (h.push (.cells (E.enc x).toArray e (0, 0))) a n c xs := by
    obtain ⟨h1, h2, h3⟩ := ho
    refine ⟨h1, h2, h3.imp id ?_⟩
    rintro ⟨b, cells, r1, r2, r3, r4⟩
    exact ⟨b, cells, r1, r2, by rw [push_old _ _ (at_lt r3)]; exact r3, r4⟩
  refine svc_append (ys := [x]) (ty := ty) hA own1 (by simp; omega) ⟨rfl, .inr ⟨_, rfl, fun i y hy j u hu => ?_⟩⟩ hroom fun a' c' h' o' u' b' => ⟨_, _, _, rfl, k a' c' h' o' (u0.trans u') fun i hi => ?_⟩
  · cases i with
    | zero =>
      simp at hy; subst hy
      rw [Addr.add_row, cell_push, Nat.zero_mul]
      simpa using hu
    | succ i => simp at hy
  · rcases b' i hi with h1 | h1
    · exact .inl h1
    · right; rw [h1]; simp

/-- one cell of a row of the call's own is written. -/
theorem svc_store_cell {P : Program} {t T b o : Nat} {h : Heap} {old : Array Value} {v : Value} {K : Unit → Heap → Prop} (hsz : szOf P t = some 1) (hb : h[b]? = some (.cells old T (0, 0)))
    (ho : o < old.size) (hc : v.cells = #[v]) (hone : (∀ c, v ≠ .agg c) ∧ (∀ c, v ≠ .tuple c))
    (k : ∀ h', h'.size = h.size → h'[b]? = some (.cells (old.toList.set o v).toArray T (0, 0)) → (∀ i, i ≠ b → h'[i]? = h[i]?) → K () h') : SVC P (Instr.storeAt t (.pointer (some ⟨b, o, none⟩)) v) h K := by
  refine ⟨fun w hw => ?_⟩
  subst hw
  obtain ⟨w', cells', h1, h2, h3, h4, h5, h6, h7⟩ := run_storeCells (P := P) b T [v] o old w 0 hb (by simp; omega) (fun u hu => by simp at hu; subst hu; exact hone)
  refine ⟨(), w', ?_, h2, k _ h3 ?_ h7⟩
  · simp only [Instr.storeAt, Instr.sureAddr, Sem.run_bind, Sem.run_pure, Result.andThen_ok, storeVar, hc, run_szOf hsz, List.size_toArray, List.length_singleton, ne_eq, not_true, if_false]
    exact h1
  · rw [h4]
    have : cells'.toList = old.toList.set o v := by rw [h6]; rfl
    rw [← this]
theorem upd_of_one {h h' : Heap} {b : Nat} (hs : h'.size = h.size) (ho : ∀ i, i ≠ b → h'[i]? = h[i]?) : Upd (fun i => i = b) h h' := ⟨by omega, fun i _ hi => ho i hi⟩
theorem Own.mono {α : Type} {E : Enc α} {T : TypeId} {B C : Nat} {h : Heap} {a : Option Addr} {n c : Nat} {xs : List α} (ho : Own E T B h a n c xs) (hC : C ≤ B) : Own E T C h a n c xs :=
  ⟨ho.1, ho.2.1, ho.2.2.imp id fun ⟨b, cells, r1, r2, r3⟩ => ⟨b, cells, r1, by omega, r3⟩⟩
end Go.Vc
