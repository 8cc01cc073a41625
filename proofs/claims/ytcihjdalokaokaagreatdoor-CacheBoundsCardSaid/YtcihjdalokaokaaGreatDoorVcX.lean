/-
  Append where it must grow, whatever the slice; a text appended to a slice of the call's own. Conditions: none.
-/
import Derived.Test.YtcihjdalokaokaaGreatDoorVcW
set_option linter.unusedSimpArgs false
set_option linter.unusedVariables false
namespace Go.Vc
open Go

section
variable {α : Type} {E : Enc α}
theorem first_sl {P : Program} {w : World} {b : Option Addr} {m c2 : Nat} {ys : List α} (hpos : 0 < E.sz) (hs : Sl E w.heap b m ys) : (Builtin.firstCells E.sz m (.slice b m c2)).run P w = .ok (ys.flatMap E.enc).toArray w := by
  have hysl : (ys.flatMap E.enc).length = m * E.sz := by rw [flat_len, hs.1]
  rcases hs.2 with rfl | ⟨p, rfl, hp⟩
  · have hm : m = 0 := by have := hs.1; simpa using this.symm
    subst hm
    cases b <;> simp [Builtin.firstCells, loadCells, loadCellsFrom]
  · simp only [Builtin.firstCells]
    refine run_loadCells hysl fun j v hv => ?_
    have hj : j < m * E.sz := by rw [← hysl]; exact (List.getElem?_eq_some_iff.1 hv).1
    have hi : j / E.sz < ys.length := by rw [hs.1]; exact Nat.div_lt_of_lt_mul (by rw [Nat.mul_comm]; exact hj)
    have hr : j % E.sz < E.sz := Nat.mod_lt _ hpos
    have hx : ys[j / E.sz]? = some ys[j / E.sz] := List.getElem?_eq_getElem hi
    have hlen := E.len ys[j / E.sz]
    have hvj : (E.enc ys[j / E.sz])[j % E.sz]? = some ((E.enc ys[j / E.sz])[j % E.sz]'(by omega)) := List.getElem?_eq_getElem (by omega)
    have hf := flat_get ys hx hvj
    rw [Nat.mul_comm, Nat.div_add_mod] at hf
    rw [hv] at hf
    have := hp _ _ hx _ _ hvj
    rw [Nat.mul_comm, Nat.div_add_mod] at this
    rw [this, ← hf]
/-- what is appended does not fit: a new block, whatever the slice was. -/
theorem svc_append_grow {P : Program} {T T2 e : TypeId} {bytes : Nat} {z : Value} {B : Nat} {h : Heap} {a : Option Addr} {n c m : Nat} {xs ys : List α} {v2 : Value} {ty : TypeId} {K : Value → Heap → Prop}
    (hA : App P T e E.sz bytes z) {d2 : TypeDesc} (hu2 : P.underlying T2 = some d2) (hd2 : (∃ e2, d2 = .slice e2) ∨ d2 = .string) (hx : Sl E h a n xs) (hB : B ≤ h.size) (hgrow : c < n + m) (hnc : n ≤ c)
    (hlen : ∀ w : World, (Builtin.lenOf v2).run P w = .ok m w) (hys : ys.length = m) (hread : ∀ w : World, w.heap = h → (Builtin.firstCells E.sz m v2).run P w = .ok (ys.flatMap E.enc).toArray w)
    (hroom : (4 * (n + m) + 192) * bytes ≤ 2 ^ 48)
    (k : ∀ c' h', Own E e B h' (some ⟨h.size, 0, none⟩) (n + m) c' (xs ++ ys) → Keep h.size h h' → h'.size = h.size + 1 → K (.slice (some ⟨h.size, 0, none⟩) (n + m) c') h') :
    SVC P (Builtin.append_ #[T, T2] ty #[.slice a n c, v2]) h K := by
  refine ⟨fun w hw => ?_⟩
  subst hw
  obtain ⟨hu, hsz, hby, hze, hzl, hpos, hbpos⟩ := hA
  have hsizeOf := fun w : World => run_szOf (P := P) hsz w
  have hti : ∀ w : World, ∃ i, P.info? e = some i ∧ (typeInfo e).run P w = .ok i w ∧ i.bytes = bytes ∧ i.zero = some z := fun w => by
    cases hi : P.info? e with
    | none => simp [hi] at hby
    | some i => simp [hi] at hby hze; exact ⟨i, rfl, by simp [typeInfo, hi], hby, hze⟩
  have hzero : ∀ w : World, (zeroValue e).run P w = .ok z w := fun w => by
    obtain ⟨i, h1, h2, h3, h4⟩ := hti w
    simp [zeroValue, h2, h4]
  have hxl := hx.1
  obtain ⟨inf, i1, i2, i3, i4⟩ := hti w
  have hcap := nextslicecap_le (n + m) c (by omega)
  have hle : Builtin.nextslicecap (n + m) c * bytes ≤ 2 ^ 48 := Nat.le_trans (Nat.mul_le_mul_right _ hcap) hroom
  have hold : ∀ w' : World, w'.heap = w.heap → (Builtin.firstCells E.sz n (.slice a n c)).run P w' = .ok (xs.flatMap E.enc).toArray w' := fun w' hw' => first_sl hpos (by rw [hw']; exact hx)
  let q : Question := .appendCap (n + m) c e
  let cap := q.cut (w.tape w.drawn q)
  let wd : World := { w with drawn := w.drawn + 1 }
  have hch : (choose q).run P w = .ok cap wd := rfl
  have hcge : n + m ≤ cap := by show n + m ≤ (n + m) + _; omega
  have hzlen : (Builtin.zeroCells z.cells (cap - (n + m))).size = (cap - (n + m)) * E.sz := by simp [Builtin.zeroCells, hzl]
  have hfit : ¬ n + m ≤ c := by omega
  refine ⟨.slice (some ⟨w.heap.size, 0, none⟩) (n + m) cap, { wd with heap := w.heap.push (.cells ((xs.flatMap E.enc).toArray ++ (ys.flatMap E.enc).toArray ++ Builtin.zeroCells z.cells (cap - (n + m))) e) }, ?_, Sane.push rfl, ?_⟩
  · have hbz : inf.bytes = bytes := i3
    have g1 : ∀ w' : World, (typeInfo e).run P w' = .ok inf w' := fun w' => by
      obtain ⟨i', j1, j2, _, _⟩ := hti w'
      rw [i1] at j1; cases j1; exact j2
    have hle' : ¬ (281474976710656 < Builtin.nextslicecap (n + m) c * inf.bytes) := by rw [hbz]; omega
    have hnb : inf.bytes ≠ 0 := by omega
    have hforced : (Question.appendCap (n + m) c e).forced = false := rfl
    have hold' := hold w.drew rfl
    have hread2 := hread w.drew rfl
    rcases hd2 with ⟨e2, rfl⟩ | rfl
    · simp [Builtin.append_, run_underlying hu, run_underlying hu2, hsizeOf, hlen, hfit, g1, hle', hnb, hforced, hold', hread2, hzero, newRow]
      refine ⟨rfl, ?_⟩
      show ({ w with heap := _, drawn := _ } : World) = _
      congr 2
      simp only [cap, q, ← Array.append_assoc, List.append_toArray]
    · simp [Builtin.append_, run_underlying hu, run_underlying hu2, hsizeOf, hlen, hfit, g1, hle', hnb, hforced, hold', hread2, hzero, newRow]
      refine ⟨rfl, ?_⟩
      show ({ w with heap := _, drawn := _ } : World) = _
      congr 2
      simp only [cap, q, ← Array.append_assoc, List.append_toArray]
  · have hsz' : ((xs.flatMap E.enc).toArray ++ (ys.flatMap E.enc).toArray ++ Builtin.zeroCells z.cells (cap - (n + m))).size = cap * E.sz := by
      simp only [Array.size_append, hzlen, List.size_toArray, flat_len, hxl, hys]
      rw [← Nat.add_mul, ← Nat.add_mul, Nat.add_sub_cancel' hcge]
    refine k _ _ ⟨by simp [hxl, hys], hcge, .inr ⟨w.heap.size, _, rfl, hB, push_at _ _, hsz', (Builtin.zeroCells z.cells (cap - (n + m))).toList, ?_⟩⟩ (Keep.push w.heap.size w.heap _ (Nat.le_refl _)) (by simp)
    simp [List.flatMap_append]
end
theorem len_str {P : Program} (s : ByteArray) (w : World) : (Builtin.lenOf (.string s)).run P w = .ok s.size w := rfl
theorem len_slice {P : Program} (a : Option Addr) (n c : Nat) (w : World) : (Builtin.lenOf (.slice a n c)).run P w = .ok n w := rfl
theorem first_str {P : Program} (s : ByteArray) (w : World) : (Builtin.firstCells ByteE.sz s.size (.string s)).run P w = .ok ((bytesL s).flatMap ByteE.enc).toArray w := by
  have h1 : s.extract 0 s.size = s := by apply ByteArray.ext; simp
  have h2 : (s.data.map fun b => Value.int .u8 b.toNat) = ((bytesL s).flatMap ByteE.enc).toArray := by
    apply Array.toList_inj.1
    rw [Array.toList_map]
    show s.data.toList.map _ = (s.data.toList.flatMap ByteE.enc)
    generalize s.data.toList = l
    induction l with
    | nil => rfl
    | cons a l ih => rw [List.flatMap_cons, ← ih]; rfl
  show Result.ok ((s.extract 0 s.size).data.map fun b => Value.int .u8 b.toNat) w = _
  rw [h1, h2]
/-- a text appended to bytes of the call's own. -/
theorem svc_append_str {P : Program} {T T2 e : TypeId} {z : Value} {B : Nat} {h : Heap} {a : Option Addr} {n c : Nat} {xs : List UInt8} {s : ByteArray} {ty : TypeId} {K : Value → Heap → Prop}
    (hA : App P T e ByteE.sz 1 z) (hu2 : P.underlying T2 = some .string) (ho : Own ByteE e B h a n c xs) (hB : B ≤ h.size) (hroom : (4 * (n + s.size) + 192) * 1 ≤ 2 ^ 48)
    (k : ∀ a' c' h', Own ByteE e B h' a' (n + s.size) c' (xs ++ bytesL s) → Upd (blk a) h h' → (∀ i, blk a' i → blk a i ∨ i = h.size) → K (.slice a' (n + s.size) c') h') :
    SVC P (Builtin.append_ #[T, T2] ty #[.slice a n c, .string s]) h K := by
  have hys : (bytesL s).length = s.size := by show s.data.toList.length = s.data.size; rw [Array.length_toList]
  by_cases hfit : n + s.size ≤ c
  · refine ⟨fun w hw => ?_⟩
    subst hw
    have hsizeOf := fun w : World => run_szOf (P := P) hA.size w
    have hread := first_str (P := P) s w
    have hone : ∀ v ∈ (bytesL s).flatMap ByteE.enc, (∀ c, v ≠ .agg c) ∧ (∀ c, v ≠ .tuple c) := fun v hv => by
      obtain ⟨x, _, hx⟩ := List.mem_flatMap.1 hv
      exact ByteE.one x v hx
    have hysl : ((bytesL s).flatMap ByteE.enc).length = s.size := by rw [flat_len, hys]; exact Nat.mul_one _
    have hl := ho.1
    rcases ho.2.2 with ⟨rfl, rfl⟩ | ⟨bb, cells, rfl, hBb, hbb, hcs, rest, hrest⟩
    · have hm : s.size = 0 := by omega
      have hn : n = 0 := by omega
      subst hn
      have hxs : xs = [] := List.eq_nil_of_length_eq_zero hl
      have hys0 : bytesL s = [] := List.eq_nil_of_length_eq_zero (by omega)
      refine ⟨.slice none (0 + s.size) 0, w, ?_, Sane.refl w, k _ _ _ ?_ (Upd.refl _ _) (fun i hi => .inl hi)⟩
      · have hr0 := hread
        rw [hm] at hr0
        simp [Builtin.append_, run_underlying hA.und, run_underlying hu2, hsizeOf, len_str, hm]
        rw [hr0]; rfl
      · rw [hxs, hys0, hm]; exact ⟨rfl, Nat.le_refl _, .inl ⟨rfl, rfl⟩⟩
    · have hxl : (xs.flatMap ByteE.enc).length = n := by rw [flat_len, hl]; exact Nat.mul_one _
      have hcl : cells.toList.length = cells.size := by simp
      have hcs' : cells.size = c := by rw [hcs]; exact Nat.mul_one _
      have hrl : rest.length = cells.size - n := by
        have := congrArg List.length hrest
        rw [hcl, List.length_append, hxl] at this; omega
      obtain ⟨w', cells', h1, h2, h3, h4, h5, h6, h7⟩ := run_storeCells (P := P) bb e ((bytesL s).flatMap ByteE.enc) n cells w 0 hbb (by rw [hysl]; omega) hone
      refine ⟨_, w', ?_, h2, k _ _ _ ⟨by simp [hl, hys], hfit, .inr ⟨bb, cells', rfl, hBb, h4, by rw [h5]; exact hcs, rest.drop ((bytesL s).flatMap ByteE.enc).length, ?_⟩⟩
        ⟨by rw [h3]; exact Nat.le_refl _, fun i hi hs => h7 i fun e => hs ⟨_, rfl, e.symm⟩⟩ (fun i hi => .inl hi)⟩
      · have e1 : ByteE.sz = 1 := rfl
        have hr1 := hread
        rw [e1] at hr1
        simp [Builtin.append_, run_underlying hA.und, run_underlying hu2, hsizeOf, len_str, hfit, e1, Addr.add_row]
        rw [hr1]
        simp [h1]
      · rw [h6, hrest, Nat.add_zero, ← hxl, putL_prefix _ _ _ (by rw [hysl, hrl]; omega), List.flatMap_append]
  · refine svc_append_grow hA hu2 (.inr rfl) ho.sl hB (by omega) ho.2.1 (len_str s) hys (fun w _ => first_str s w) hroom fun c' h' o kk ss => k _ c' h' o (kk.upd _) fun i ⟨p, e, hp⟩ => .inr (by cases e; exact hp.symm)
end Go.Vc
