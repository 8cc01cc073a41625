/-
  Small looks: pointers against nil, the greater and the lesser of two numbers; a whole row of a zero value. Conditions: none.
-/
import Derived.Test.YtcihjdalokaokaaGreatDoorVcP
import Derived.Laws.Pointers
import Derived.Laws.Small
set_option linter.unusedSimpArgs false
set_option linter.unusedVariables false
set_option linter.unusedSectionVars false
namespace Go.Vc
open Go

theorem reads_eql_nil {P : Program} {t : TypeId} {x y : Operand} {p : Option Addr} {h : Heap} (ht : P.underlying t = some (.pointer (P.pointee t))) :
    Reads P (eqSem .eql t x y (.pointer p) (.pointer none)) h (.bool p.isNone) :=
  ⟨fun w _ => by simp [eqSem, eqGuard, run_eql_pointer_nil w t p ht]⟩
theorem reads_neq_nil {P : Program} {t : TypeId} {x y : Operand} {p : Option Addr} {h : Heap} (ht : P.underlying t = some (.pointer (P.pointee t))) :
    Reads P (eqSem .neq t x y (.pointer p) (.pointer none)) h (.bool !p.isNone) :=
  ⟨fun w _ => by simp [eqSem, eqGuard, run_neq_pointer_nil w t p ht]⟩
theorem reads_max {P : Program} {ts : Array TypeId} {t : TypeId} {k : IntKind} {a b : Int} {h : Heap} : Reads P (Builtin.max_ ts t #[.int k a, .int k b]) h (.int k (if b > a then b else a)) :=
  ⟨fun w _ => run_max_int2 (P := P) w ts t k k a b⟩
theorem reads_min {P : Program} {ts : Array TypeId} {t : TypeId} {k : IntKind} {a b : Int} {h : Heap} : Reads P (Builtin.min_ ts t #[.int k a, .int k b]) h (.int k (if b < a then b else a)) :=
  ⟨fun w _ => by simp [Builtin.min_, Builtin.min2]⟩

theorem cell_cells {h : Heap} {b : Nat} {c : Array Value} {T : TypeId} {f : Nat × Nat} {k : Nat} {v : Value} (hb : h[b]? = some (.cells c T f)) (hk : c[k]? = some v) : cell h ((⟨b, 0, none⟩ : Addr).add k) = some v := by
  rw [Addr.add_row, Nat.zero_add, cell_at hb]; exact hk
theorem cell_cells0 {h : Heap} {b : Nat} {c : Array Value} {T : TypeId} {f : Nat × Nat} {v : Value} (hb : h[b]? = some (.cells c T f)) (hk : c[0]? = some v) : cell h (⟨b, 0, none⟩ : Addr) = some v := by
  rw [cell_at hb]; exact hk
/-- one cell of a box is written. -/
theorem svc_store_box {P : Program} {t T b k : Nat} {h : Heap} {old : Array Value} {v : Value} {K : Unit → Heap → Prop} (hsz : szOf P t = some 1) (hb : h[b]? = some (.cells old T (0, 0)))
    (ho : k < old.size) (hc : v.cells = #[v]) (hone : (∀ c, v ≠ .agg c) ∧ (∀ c, v ≠ .tuple c))
    (kk : ∀ h', h'.size = h.size → h'[b]? = some (.cells (old.toList.set k v).toArray T (0, 0)) → Upd (fun i => i = b) h h' → K () h') : SVC P (Instr.storeAt t (.pointer (some ((⟨b, 0, none⟩ : Addr).add k))) v) h K := by
  rw [Addr.add_row, Nat.zero_add]
  exact svc_store_cell hsz hb ho hc hone fun h' h1 h2 h3 => kk h' h1 h2 (upd_of_one h1 h3)
theorem Upd.of_sub {S T : Nat → Prop} {h h' : Heap} (u : Upd S h h') (hs : ∀ i, i < h.size → S i → T i) : Upd T h h' := ⟨u.size, fun i hi ht => u.block i hi fun hS => ht (hs i hi hS)⟩
theorem Upd.trans' {S : Nat → Prop} {a b c : Heap} (h : Upd S a b) (k : Upd (fun q => S q ∨ (a.size ≤ q ∧ q < b.size)) b c) : Upd S a c :=
  ⟨Nat.le_trans h.size k.size, fun i hi hs => (k.block i (Nat.lt_of_lt_of_le hi h.size) (fun h0 => h0.elim hs (fun h0 => by omega))).trans (h.block i hi hs)⟩
theorem Upd.fresh {S : Nat → Prop} {h h' : Heap} (k : Keep h.size h h') : Upd S h h' := k.upd S
theorem Upd.keep' {S : Nat → Prop} {a b c : Heap} (h : Upd S a b) (k : Keep b.size b c) : Upd S a c := h.trans (k.upd S)
theorem cells_all {h : Heap} {b : Nat} {cs : List Value} {T : TypeId} {f : Nat × Nat} (hb : h[b]? = some (.cells cs.toArray T f)) : ∀ j v, cs[j]? = some v → cell h ((⟨b, 0, none⟩ : Addr).add j) = some v :=
  fun j v hv => cell_cells hb (by simpa using hv)
theorem cells_part {h : Heap} {b : Nat} {cs xs : List Value} {T : TypeId} {f : Nat × Nat} {k : Nat} (hb : h[b]? = some (.cells cs.toArray T f)) (hx : ∀ j v, xs[j]? = some v → cs[k + j]? = some v) :
    ∀ j v, xs[j]? = some v → cell h (((⟨b, 0, none⟩ : Addr).add k).add j) = some v := fun j v hv => by
  rw [Addr.add_add]; exact cell_cells hb (by simpa using hx j v hv)
theorem push2_0 (h : Heap) (a b : Obj) : ((h.push a).push b)[h.size]? = some a := by
  rw [Array.getElem?_push, if_neg (by simp), Array.getElem?_push, if_pos rfl]
theorem push2_1 (h : Heap) (a b : Obj) : ((h.push a).push b)[h.size + 1]? = some b := by
  rw [Array.getElem?_push, if_pos (by simp)]
theorem push3_0 (h : Heap) (a b c : Obj) : (((h.push a).push b).push c)[h.size]? = some a := by
  rw [Array.getElem?_push, if_neg (by simp; omega)]; exact push2_0 h a b
theorem push3_1 (h : Heap) (a b c : Obj) : (((h.push a).push b).push c)[h.size + 1]? = some b := by
  rw [Array.getElem?_push, if_neg (by simp)]; exact push2_1 h a b
theorem push3_2 (h : Heap) (a b c : Obj) : (((h.push a).push b).push c)[h.size + 2]? = some c := by
  rw [Array.getElem?_push, if_pos (by simp)]
theorem keep_push (h : Heap) (o : Obj) : Keep h.size h (h.push o) := Keep.push h.size h o (Nat.le_refl _)
/-- some cells of a box of the call's own are written. -/
theorem svc_store_at {P : Program} {t T b o : Nat} {h : Heap} {old : Array Value} {v : Value} {K : Unit → Heap → Prop} (hsz : szOf P t = some v.cells.size) (hb : h[b]? = some (.cells old T (0, 0)))
    (hlen : o + v.cells.size ≤ old.size) (hone : oneCells v.cells.toList)
    (k : ∀ h', h'.size = h.size → h'[b]? = some (.cells (putL old.toList o v.cells.toList).toArray T (0, 0)) → Upd (fun i => i = b) h h' → K () h') : SVC P (Instr.storeAt t (.pointer (some ⟨b, o, none⟩)) v) h K := by
  refine ⟨fun w hw => ?_⟩
  subst hw
  obtain ⟨w', cells', h1, h2, h3, h4, h5, h6, h7⟩ := run_storeCells (P := P) b T v.cells.toList o old w 0 hb (by simpa using hlen) hone
  refine ⟨(), w', ?_, h2, k _ h3 ?_ (upd_of_one h3 h7)⟩
  · simp only [Instr.storeAt, Instr.sureAddr, Sem.run_bind, Sem.run_pure, Result.andThen_ok, storeVar, run_szOf hsz, ne_eq, not_true, if_false]
    exact h1
  · rw [h4]
    have : cells'.toList = putL old.toList o v.cells.toList := by rw [h6]; rfl
    rw [← this]

theorem Sl.upd {α : Type} {E : Enc α} {h h' : Heap} {a : Option Addr} {n : Nat} {xs : List α} {S : Nat → Prop} (hs : Sl E h a n xs) (u : Upd S h h') (hS : ∀ b, blk a b → ¬ S b) : Sl E h' a n xs :=
  ⟨hs.1, hs.2.imp id fun ⟨p, e, hp⟩ => ⟨p, e, fun i x hx j v hv => by
    have hc := hp i x hx j v hv
    have hb : (p.add (i * E.sz + j)).block = p.block := Addr.add_block _ _
    rw [cell_congr (h := h) (u.block _ (cell_lt hc) (by rw [hb]; exact hS _ ⟨p, e, rfl⟩))]
    exact hc⟩⟩
/-- a slice's literal of one whole element. -/
theorem bs_one {P : Program} {t e : TypeId} {sz : Nat} {z v : Value} (hu : P.underlying t = some (.slice e)) (hs : szOf P e = some sz) (hz : (P.info? e).bind (·.zero) = some z) (hz' : z.cells.size = sz)
    (hle : sz ≤ 4096) (hp : 0 < sz) (hv : v.cells.size = sz) : bsCells P t 1 [(0, v)] = some (e, v.cells.toList) := by
  unfold bsCells
  rw [hu]
  simp only [hs, hz]
  have h1 : (Nat.ble (1 * sz) 4096 && !(Nat.beq (1 * sz) 0)) = true := by
    rw [Nat.one_mul, Bool.and_eq_true]
    refine ⟨Nat.ble_eq_true_of_le hle, ?_⟩
    cases hb : Nat.beq sz 0 with
    | false => rfl
    | true => have := Nat.eq_of_beq_eq_true hb; omega
  rw [h1]
  have hl : v.cells.toList.length = sz := by rw [Array.length_toList]; exact hv
  have h2 : (Nat.beq v.cells.toList.length sz && Nat.ble (0 * sz + v.cells.toList.length) (zerosL z.cells.toList (1 * sz)).length) = true := by
    rw [Bool.and_eq_true, hl]
    refine ⟨Nat.beq_refl _, Nat.ble_eq_true_of_le ?_⟩
    simp [zerosL]
  have h3 : putL (zerosL z.cells.toList (1 * sz)) (0 * sz) v.cells.toList = v.cells.toList := by
    rw [Nat.zero_mul]; exact putL_all _ _ (by simp [zerosL, hv])
  simp only [fillL, h2, h3]
theorem run_mark {P : Program} {w : World} {b : Nat} {cs : Array Value} {T : TypeId} (hb : w.heap[b]? = some (.cells cs T (0, 0))) :
    (markStringish ⟨b, 0, none⟩).run P w = .ok () { w with heap := w.heap.setIfInBounds b (.cells cs T (cs.size, cs.size + 1)) } := by
  have hsh : w.shape? b = some (T, cs.size) := by unfold World.shape?; rw [hb]
  have hlt := at_lt hb
  have hf : w.freeze ⟨b, cs.size, none⟩ 1 = { w with heap := w.heap.setIfInBounds b (.cells cs T (cs.size, cs.size + 1)) } := by
    unfold World.freeze
    rw [if_neg (by decide)]
    congr 1
    apply Array.ext_getElem?
    intro i
    rw [Array.getElem?_modify]
    by_cases h : b = i
    · subst h; rw [if_pos rfl, hb]; simp [hlt]
    · rw [if_neg h, Array.getElem?_setIfInBounds_ne h]
  simp [markStringish, hsh]
  exact hf
/-- a slice of bytes that stands for a text is marked. -/
theorem svc_mark {P : Program} {t e : TypeId} {h : Heap} {b n c : Nat} {cs : Array Value} {T : TypeId} {K : Value → Heap → Prop} (hu : P.underlying t = some (.slice e)) (he : P.underlying e = some (.int .u8))
    (hb : h[b]? = some (.cells cs T (0, 0))) (k : ∀ h', h'.size = h.size → h'[b]? = some (.cells cs T (cs.size, cs.size + 1)) → Upd (fun i => i = b) h h' → K (.slice (some ⟨b, 0, none⟩) n c) h') :
    SVC P (convert t t (.slice (some ⟨b, 0, none⟩) n c)) h K := by
  refine ⟨fun w hw => ?_⟩
  subst hw
  refine ⟨.slice (some ⟨b, 0, none⟩) n c, { w with heap := w.heap.setIfInBounds b (.cells cs T (cs.size, cs.size + 1)) }, ?_, Sane.set hb rfl rfl, k _ (by simp) (setObj_at (at_lt hb)) (setObj_upd _ _ _)⟩
  simp [convert, run_underlying hu, run_underlying he, run_mark hb]
theorem sl_bytes {h : Heap} {b : Nat} {xs : List UInt8} {T : TypeId} {f : Nat × Nat} (hb : h[b]? = some (.cells (xs.flatMap ByteE.enc).toArray T f)) : Sl ByteE h (some ⟨b, 0, none⟩) xs.length xs :=
  ⟨rfl, .inr ⟨_, rfl, fun i x hx j v hv => by
    rw [Addr.add_row, Nat.zero_add, cell_at hb]
    simpa using flat_get (E := ByteE) xs hx hv⟩⟩
/-- how many entries a loop over a map has left. -/
def leftN (h : Heap) (i : Nat) : Nat := match h[i]? with
  | some (.mapIter (some m) _ seen _) => (match h[m]? with | some (.map es _) => (leftOf es seen).size | _ => 0)
  | _ => 0
theorem IterAt.leftN {κ ν : Type} [DecidableEq κ] {P : Program} {T kt et : TypeId} {M : Mk P T kt et κ ν} {h : Heap} {i r : Nat} {m left : List (κ × ν)} {cur : Option (κ × ν)} (hi : IterAt M h i r m left cur) : Vc.leftN h i = left.length := by
  obtain ⟨es, clock, since, seen, last, e1, _, _, _, _, e2, _, _, _, e3, _⟩ := hi
  unfold Vc.leftN
  rw [e2]
  simp only [e1]
  have := congrArg List.length e3
  simpa using this
/-- an entry taken out of what is left. -/
theorem mem_erase {κ ν : Type} : ∀ (l : List (κ × ν)) (j : Nat) (p : κ × ν), l[j]? = some p → ∀ q, q ∈ mKeys l ↔ q = p.1 ∨ q ∈ mKeys (l.eraseIdx j)
  | [], j, p, h, _ => by simp at h
  | a :: l, 0, p, h, q => by simp at h; subst h; simp [mKeys]
  | a :: l, j + 1, p, h, q => by
    have := mem_erase l j p (by simpa using h) q
    simp only [mKeys, List.eraseIdx_cons_succ, List.map_cons, List.mem_cons] at this ⊢
    rw [this]
    exact ⟨fun h => h.elim (fun h => .inr (.inl h)) (fun h => h.elim .inl (fun h => .inr (.inr h))), fun h => h.elim (fun h => .inr (.inl h)) (fun h => h.elim .inl (fun h => .inr (.inr h)))⟩

/- ------------------------------------------------------------------ sums over the entries of a map -/
section
variable {κ : Type} [DecidableEq κ]
def sumV (l : List (κ × Int)) : Int := (l.map (·.2)).sum
theorem sumV_erase (l : List (κ × Int)) : ∀ (j : Nat) (p : κ × Int), l[j]? = some p → sumV (l.eraseIdx j) = sumV l - p.2 := by
  induction l with
  | nil => intro j p h; simp at h
  | cons a l ih =>
    intro j p h
    cases j with
    | zero => simp at h; subst h; simp [sumV]; omega
    | succ j => have := ih j p (by simpa using h); simp [sumV] at this ⊢; omega
theorem sumV_nonneg {l : List (κ × Int)} (h : ∀ p ∈ l, 0 ≤ p.2) : 0 ≤ sumV l := by
  induction l with
  | nil => simp [sumV]
  | cons a l ih =>
    have h1 := h a List.mem_cons_self
    have h2 := ih fun p hp => h p (List.mem_cons_of_mem _ hp)
    simp [sumV] at h2 ⊢; omega
theorem mGet_mem {ν : Type} {m : List (κ × ν)} (hn : (mKeys m).Nodup) (k : κ) (v : ν) : (k, v) ∈ m ↔ mGet m k = some v := by
  induction m with
  | nil => simp [mGet]
  | cons p m ih =>
    simp only [mKeys, List.map_cons, List.nodup_cons] at hn
    by_cases h : p.1 = k
    · subst h
      simp only [List.mem_cons, mGet, if_true, Option.some.injEq]
      constructor
      · rintro (h | h)
        · rw [← h]
        · exact absurd (List.mem_map_of_mem (f := (·.1)) h) hn.1
      · intro h; left; rw [← h]
    · simp only [List.mem_cons, mGet, if_neg h, ← ih hn.2]
      exact ⟨fun h0 => h0.resolve_left fun e => h (by rw [← e]), .inr⟩
theorem perm_of_get {ν : Type} [DecidableEq ν] {m l : List (κ × ν)} (hm : (mKeys m).Nodup) (hl : (mKeys l).Nodup) (h : ∀ k, mGet m k = mGet l k) : m.Perm l := by
  have nd : ∀ {m : List (κ × ν)}, (mKeys m).Nodup → m.Nodup := fun h => (List.Pairwise.of_map (·.1) (fun a b h e => h (by rw [e])) h)
  refine (List.perm_ext_iff_of_nodup (nd hm) (nd hl)).2 fun p => ?_
  rw [show p = (p.1, p.2) from rfl, mGet_mem hm, mGet_mem hl, h]
theorem sumV_perm {m l : List (κ × Int)} (h : m.Perm l) : sumV m = sumV l := by
  induction h with
  | nil => rfl
  | cons x _ ih => simp [sumV] at ih ⊢; omega
  | swap x y l => simp [sumV]; omega
  | trans _ _ h1 h2 => exact h1.trans h2
end
end Go.Vc
