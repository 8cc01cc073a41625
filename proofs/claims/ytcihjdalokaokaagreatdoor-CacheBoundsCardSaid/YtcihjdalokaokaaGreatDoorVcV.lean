/-
  Slices of the call's own that begin within a row: append, a part of them; a row of noughts. Conditions: none.
-/
import Derived.Test.YtcihjdalokaokaaGreatDoorVcU
import Derived.Laws.MakeOwn
set_option linter.unusedSimpArgs false
set_option linter.unusedVariables false
namespace Go.Vc
open Go

section
variable {α : Type} {E : Enc α}
/-- a slice of the call's own, wherever it begins in its row. -/
def OwnO (E : Enc α) (T : TypeId) (B : Nat) (h : Heap) (a : Option Addr) (n c : Nat) (xs : List α) : Prop :=
  xs.length = n ∧ n ≤ c ∧ ((a = none ∧ c = 0) ∨ ∃ b o cells pre rest, a = some ⟨b, o, none⟩ ∧ B ≤ b ∧ h[b]? = some (.cells cells T (0, 0)) ∧ o + c * E.sz ≤ cells.size ∧ pre.length = o ∧
    cells.toList = pre ++ (xs.flatMap E.enc ++ rest))

theorem Own.o {T : TypeId} {B : Nat} {h : Heap} {a : Option Addr} {n c : Nat} {xs : List α} (ho : Own E T B h a n c xs) : OwnO E T B h a n c xs :=
  ⟨ho.1, ho.2.1, ho.2.2.imp id fun ⟨b, cells, e, hB, hb, hs, rest, hr⟩ => ⟨b, 0, cells, [], rest, e, hB, hb, by omega, rfl, by simpa using hr⟩⟩
theorem OwnO.nil (T : TypeId) (B : Nat) (h : Heap) : OwnO E T B h none 0 0 [] := ⟨rfl, Nat.le_refl _, .inl ⟨rfl, rfl⟩⟩
theorem OwnO.block {T : TypeId} {B : Nat} {h : Heap} {a : Option Addr} {n c : Nat} {xs : List α} (ho : OwnO E T B h a n c xs) : ∀ b, blk a b → B ≤ b ∧ b < h.size := by
  rintro b ⟨p, rfl, rfl⟩
  rcases ho.2.2 with ⟨e, _⟩ | ⟨b, o, cells, pre, rest, e, hB, hb, _⟩
  · cases e
  · cases e
    refine ⟨hB, ?_⟩
    by_cases hlt : b < h.size
    · exact hlt
    · rw [Array.getElem?_eq_none (by omega)] at hb; cases hb
theorem OwnO.sl {T : TypeId} {B : Nat} {h : Heap} {a : Option Addr} {n c : Nat} {xs : List α} (ho : OwnO E T B h a n c xs) : Sl E h a n xs := by
  obtain ⟨hl, hc, hr⟩ := ho
  refine ⟨hl, ?_⟩
  rcases hr with ⟨rfl, rfl⟩ | ⟨b, o, cells, pre, rest, rfl, hB, hb, hsz, hpre, hrest⟩
  · exact .inl (List.eq_nil_of_length_eq_zero (by omega))
  · refine .inr ⟨_, rfl, fun i x hx j v hv => ?_⟩
    have hf := flat_get (E := E) xs hx hv
    have hlt := (List.getElem?_eq_some_iff.1 hf).1
    rw [Addr.add_row]
    unfold cell
    simp only [hb, Option.isSome_none, Bool.false_eq_true, if_false]
    rw [← Array.getElem?_toList, hrest, List.getElem?_append_right (by omega), hpre, Nat.add_sub_cancel_left, List.getElem?_append_left hlt]
    exact hf
theorem OwnO.upd {T : TypeId} {B : Nat} {h h' : Heap} {a : Option Addr} {n c : Nat} {xs : List α} {S : Nat → Prop} (ho : OwnO E T B h a n c xs) (u : Upd S h h') (hs : ∀ b, blk a b → ¬ S b) :
    OwnO E T B h' a n c xs := by
  obtain ⟨hl, hc, hr⟩ := ho
  refine ⟨hl, hc, hr.imp id ?_⟩
  rintro ⟨b, o, cells, pre, rest, rfl, hB, hb, more⟩
  have hlt : b < h.size := by
    by_cases hlt : b < h.size
    · exact hlt
    · rw [Array.getElem?_eq_none (by omega)] at hb; cases hb
  exact ⟨b, o, cells, pre, rest, rfl, hB, by rw [u.block b hlt (hs b ⟨_, rfl, rfl⟩)]; exact hb, more⟩
theorem blk_subA {a : Option Addr} {l m sz : Nat} (b : Nat) : blk (subA a l m sz) b → blk a b := by
  unfold subA
  split
  · exact id
  · rintro ⟨p, e, hp⟩
    cases a with
    | none => cases e
    | some q => cases e; exact ⟨q, rfl, by rw [← hp, Addr.add_block]⟩
/-- what lies behind the first ones. -/
theorem OwnO.drop {T : TypeId} {B : Nat} {h : Heap} {a : Option Addr} {n c : Nat} {xs : List α} (ho : OwnO E T B h a n c xs) {l : Nat} (hl : l ≤ n) : OwnO E T B h (subA a l c E.sz) (n - l) (c - l) (xs.drop l) := by
  obtain ⟨hn, hc, hr⟩ := ho
  refine ⟨by rw [List.length_drop]; omega, by omega, ?_⟩
  rcases hr with ⟨rfl, rfl⟩ | ⟨b, o, cells, pre, rest, rfl, hB, hb, hsz, hpre, hrest⟩
  · exact .inl ⟨by unfold subA; split <;> rfl, by omega⟩
  · right
    by_cases e : c = l
    · refine ⟨b, o, cells, pre, xs.flatMap E.enc ++ rest, by simp [subA, e], hB, hb, ?_, hpre, ?_⟩
      · rw [e, Nat.sub_self]; omega
      · rw [List.drop_eq_nil_of_le (by omega), hrest]; simp
    · have hm : (c - l) * E.sz + l * E.sz = c * E.sz := by rw [← Nat.add_mul, Nat.sub_add_cancel (by omega)]
      refine ⟨b, o + l * E.sz, cells, pre ++ (xs.take l).flatMap E.enc, rest, by rw [subA, if_neg e]; simp [Addr.add_row], hB, hb, by omega, ?_, ?_⟩
      · rw [List.length_append, flat_len, List.length_take, hpre, show min l xs.length = l by omega]
      · rw [hrest]
        have : xs.flatMap E.enc = (xs.take l).flatMap E.enc ++ (xs.drop l).flatMap E.enc := by rw [← List.flatMap_append, List.take_append_drop]
        rw [this]; simp

theorem svc_appendO {P : Program} {T e : TypeId} {bytes : Nat} {z : Value} {B : Nat} {h : Heap} {a b : Option Addr} {n c m c2 : Nat} {xs ys : List α} {ty : TypeId} {K : Value → Heap → Prop}
    (hA : App P T e E.sz bytes z) (ho : OwnO E e B h a n c xs) (hB : B ≤ h.size) (hs : Sl E h b m ys) (hroom : (4 * (n + m) + 192) * bytes ≤ 2 ^ 48)
    (k : ∀ a' c' h', OwnO E e B h' a' (n + m) c' (xs ++ ys) → Upd (blk a) h h' → (∀ i, blk a' i → blk a i ∨ i = h.size) → K (.slice a' (n + m) c') h') :
    SVC P (Builtin.append_ #[T, T] ty #[.slice a n c, .slice b m c2]) h K := by
  rcases ho.2.2 with ⟨rfl, rfl⟩ | _
  · have hn : n = 0 := by have := ho.2.1; omega
    subst hn
    have hx : xs = [] := List.eq_nil_of_length_eq_zero ho.1
    subst hx
    exact svc_append hA (Own.nil e B h) hB hs hroom fun a' c' h' h1 h2 h3 => k a' c' h' h1.o h2 h3
  refine ⟨fun w hw => ?_⟩
  subst hw
  have hA0 := hA
  obtain ⟨hu, hsz, hby, hze, hzl, hpos, hbpos⟩ := hA
  have hsizeOf := fun w : World => run_szOf (P := P) hsz w
  have hti : ∀ w : World, ∃ i, P.info? e = some i ∧ (typeInfo e).run P w = .ok i w ∧ i.bytes = bytes ∧ i.zero = some z := fun w => by
    cases hi : P.info? e with
    | none => simp [hi] at hby
    | some i => simp [hi] at hby hze; exact ⟨i, rfl, by simp [typeInfo, hi], hby, hze⟩
  have hzero : ∀ w : World, (zeroValue e).run P w = .ok z w := fun w => by
    obtain ⟨i, h1, h2, h3, h4⟩ := hti w
    simp [zeroValue, h2, h4]
  have hysl : (ys.flatMap E.enc).length = m * E.sz := by rw [flat_len, hs.1]
  have first : ∀ {w' : World} {b : Option Addr} {m c2 : Nat} {ys : List α}, Sl E w'.heap b m ys → (Builtin.firstCells E.sz m (.slice b m c2)).run P w' = .ok (ys.flatMap E.enc).toArray w' := fun {w' b m c2 ys} hs => by
    have hysl : (ys.flatMap E.enc).length = m * E.sz := by rw [flat_len, hs.1]
    rcases hs.2 with rfl | ⟨p, rfl, hp⟩
    · have hm : m = 0 := by have := hs.1; simpa using this.symm
      subst hm
      cases b <;> simp [Builtin.firstCells, loadCells, loadCellsFrom]
    · simp only [Builtin.firstCells]
      refine run_loadCells hysl fun j v hv => ?_
      have hj : j < m * E.sz := by rw [← hysl]; exact (List.getElem?_eq_some_iff.1 hv).1
      have hi : j / E.sz < ys.length := by rw [hs.1]; exact Nat.div_lt_of_lt_mul (by rw [Nat.mul_comm]; exact hj)
      have hr : j % E.sz < E.sz := Nat.mod_lt _ hpos
      have hx : ys[j / E.sz]? = some ys[j / E.sz] := List.getElem?_eq_getElem hi
      have hlen := E.len ys[j / E.sz]
      have hvj : (E.enc ys[j / E.sz])[j % E.sz]? = some ((E.enc ys[j / E.sz])[j % E.sz]'(by omega)) := List.getElem?_eq_getElem (by omega)
      have hf := flat_get ys hx hvj
      rw [Nat.mul_comm, Nat.div_add_mod] at hf
      rw [hv] at hf
      have := hp _ _ hx _ _ hvj
      rw [Nat.mul_comm, Nat.div_add_mod] at this
      rw [this, ← hf]
  have hread := first (c2 := c2) hs
  have hone : ∀ v ∈ ys.flatMap E.enc, (∀ c, v ≠ .agg c) ∧ (∀ c, v ≠ .tuple c) := fun v hv => by
    obtain ⟨x, _, hx⟩ := List.mem_flatMap.1 hv
    exact E.one x v hx
  have hos := ho.sl
  obtain ⟨hl, hnc, hr⟩ := ho
  by_cases hfit : n + m ≤ c
  · rcases hr with ⟨rfl, rfl⟩ | ⟨bb, o, cells, pre, rest, rfl, hBb, hbb, hcs, hpre, hrest⟩
    · have hm : m = 0 := by omega
      have hn : n = 0 := by omega
      subst hm; subst hn
      have hxs : xs = [] := List.eq_nil_of_length_eq_zero hl
      have hys : ys = [] := List.eq_nil_of_length_eq_zero hs.1
      subst hxs; subst hys
      exact ⟨.slice none 0 0, w, by simp [Builtin.append_, run_underlying hu, hsizeOf, Builtin.lenOf, hread], Sane.refl w, k _ _ _ ⟨rfl, Nat.le_refl _, .inl ⟨rfl, rfl⟩⟩ (Upd.refl _ _) (fun i hi => .inl hi)⟩
    · have hxl : (xs.flatMap E.enc).length = n * E.sz := by rw [flat_len, hl]
      have hcl : cells.toList.length = cells.size := by simp
      have hrl : rest.length = cells.size - o - n * E.sz := by
        have := congrArg List.length hrest
        rw [hcl, List.length_append, List.length_append, hxl] at this; omega
      have hmul : (n + m) * E.sz ≤ c * E.sz := Nat.mul_le_mul_right _ hfit
      rw [Nat.add_mul] at hmul
      obtain ⟨w', cells', h1, h2, h3, h4, h5, h6, h7⟩ := run_storeCells (P := P) bb e (ys.flatMap E.enc) (o + n * E.sz) cells w 0 hbb (by rw [hysl]; omega) hone
      refine ⟨_, w', ?_, h2, k _ _ _ ⟨by simp [hl, hs.1], hfit, .inr ⟨bb, o, cells', pre, rest.drop (ys.flatMap E.enc).length, rfl, hBb, h4, by rw [h5]; exact hcs, hpre, ?_⟩⟩
        ⟨by rw [h3]; exact Nat.le_refl _, fun i hi hs => h7 i fun e => hs ⟨_, rfl, e.symm⟩⟩ (fun i hi => .inl hi)⟩
      · simp [Builtin.append_, run_underlying hu, hsizeOf, Builtin.lenOf, hread, hfit, Addr.add_row, h1]
      · have hpl : (pre ++ xs.flatMap E.enc).length = o + n * E.sz := by rw [List.length_append, hxl, hpre]
        rw [h6, hrest, Nat.add_zero, ← hpl, ← List.append_assoc, putL_prefix _ _ _ (by rw [hysl, hrl]; omega), List.flatMap_append]
        simp
  · obtain ⟨inf, i1, i2, i3, i4⟩ := hti w
    have hcap := nextslicecap_le (n + m) c (by omega)
    have hle : Builtin.nextslicecap (n + m) c * bytes ≤ 2 ^ 48 := Nat.le_trans (Nat.mul_le_mul_right _ hcap) hroom
    have hold : ∀ w' : World, w'.heap = w.heap → (Builtin.firstCells E.sz n (.slice a n c)).run P w' = .ok (xs.flatMap E.enc).toArray w' := fun w' hw' => first (by rw [hw']; exact hos)
    have hread' : ∀ w' : World, w'.heap = w.heap → (Builtin.firstCells E.sz m (.slice b m c2)).run P w' = .ok (ys.flatMap E.enc).toArray w' := fun w' hw' => first (by rw [hw']; exact hs)
    let q : Question := .appendCap (n + m) c e
    let cap := q.cut (w.tape w.drawn q)
    let wd : World := { w with drawn := w.drawn + 1 }
    have hch : (choose q).run P w = .ok cap wd := rfl
    have hcge : n + m ≤ cap := by show n + m ≤ (n + m) + _; omega
    have hzlen : (Builtin.zeroCells z.cells (cap - (n + m))).size = (cap - (n + m)) * E.sz := by simp [Builtin.zeroCells, hzl]
    refine ⟨.slice (some ⟨w.heap.size, 0, none⟩) (n + m) cap, { wd with heap := w.heap.push (.cells ((xs.flatMap E.enc).toArray ++ (ys.flatMap E.enc).toArray ++ Builtin.zeroCells z.cells (cap - (n + m))) e) }, ?_, Sane.push rfl, ?_⟩
    · have hbz : inf.bytes = bytes := i3
      have g1 : ∀ w' : World, (typeInfo e).run P w' = .ok inf w' := fun w' => by
        obtain ⟨i', j1, j2, _, _⟩ := hti w'
        rw [i1] at j1; cases j1; exact j2
      have hle' : ¬ (281474976710656 < Builtin.nextslicecap (n + m) c * inf.bytes) := by rw [hbz]; omega
      have hnb : inf.bytes ≠ 0 := by omega
      have hforced : (Question.appendCap (n + m) c e).forced = false := rfl
      have hold' := hold w.drew rfl
      have hread2 := hread' w.drew rfl
      simp [Builtin.append_, run_underlying hu, hsizeOf, Builtin.lenOf, hfit, g1, hle', hnb, hforced, hold', hread2, hzero, newRow]
      refine ⟨rfl, ?_⟩
      show ({ w with heap := _, drawn := _ } : World) = _
      congr 2
      simp only [cap, q, ← Array.append_assoc, List.append_toArray]
    · have hsz' : ((xs.flatMap E.enc).toArray ++ (ys.flatMap E.enc).toArray ++ Builtin.zeroCells z.cells (cap - (n + m))).size = cap * E.sz := by
        simp only [Array.size_append, hzlen, List.size_toArray, flat_len, hl, hs.1]
        rw [← Nat.add_mul, ← Nat.add_mul, Nat.add_sub_cancel' hcge]
      refine k _ _ _ ⟨by simp [hl, hs.1], hcge, .inr ⟨w.heap.size, 0, _, [], (Builtin.zeroCells z.cells (cap - (n + m))).toList, rfl, hB, push_at _ _, by rw [hsz']; omega, rfl, ?_⟩⟩
        ((Keep.push w.heap.size w.heap _ (Nat.le_refl _)).upd _) (fun i ⟨p, e, hp⟩ => .inr (by cases e; exact hp.symm))
      simp [List.flatMap_append]
end

/-- a row of noughts. -/
theorem svc_make_bytes {P : Program} {t e : TypeId} {h : Heap} {n : Nat} {K : Value → Heap → Prop} (ht : P.underlying t = some (.slice e)) (hi : (P.info? e).map (·.bytes) = some 1) (hs : szOf P e = some 1) (hz : (P.info? e).bind (·.zero) = some (.int .u8 0))
    (hn : n ≤ 281474976710656) (k : ∀ h', Keep h.size h h' → h'.size = h.size + 1 → Sl ByteE h' (some ⟨h.size, 0, none⟩) n (List.replicate n 0) → K (.slice (some ⟨h.size, 0, none⟩) n n) h') :
    SVC P (Instr.makeSlice t (.int .i64 n) (.int .i64 n)) h K := by
  refine ⟨fun w hw => ?_⟩
  subst hw
  cases hi' : P.info? e with
  | none => simp [hi'] at hi
  | some inf =>
    simp [hi'] at hi hz
    have hsz : inf.size = 1 := by simpa [szOf, hi'] using hs
    have hr := run_make (P := P) w t e inf (.int .u8 0) ht hi' hz .i64 .i64 n n (by omega) (Int.le_refl _) (by rw [hi]; omega) (by omega)
    rw [hsz, Int.toNat_natCast, Nat.mul_one] at hr
    refine ⟨_, _, hr, Sane.push rfl, k _ (Keep.push _ _ _ (Nat.le_refl _)) (by show (w.heap.push _).size = _; simp) ⟨by simp, .inr ⟨_, rfl, fun i x hx j v hv => ?_⟩⟩⟩
    have hlt : i < n := by have := (List.getElem?_eq_some_iff.1 hx).1; simpa using this
    have hx0 : x = 0 := by rw [List.getElem?_replicate, if_pos hlt] at hx; simpa using hx.symm
    subst hx0
    match j, hv with
    | 0, hv =>
      simp [ByteE] at hv
      subst hv
      rw [Addr.add_row]
      show cell (w.heap.push _) _ = _
      rw [cell_push]
      have e1 : 0 + (i * ByteE.sz + 0) = i := by show 0 + (i * 1 + 0) = i; omega
      rw [e1, madeCells, Array.getElem?_map, Array.getElem?_range, if_pos hlt]
      simp [Value.cells, Nat.mod_one]
    | j + 1, hv => simp [ByteE] at hv
end Go.Vc
