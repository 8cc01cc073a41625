/-
  Maps on a heap: what a map reads as, look-ups, stores, deletes. Conditions: the key's law.
-/
import Derived.Test.YtcihjdalokaokaaGreatDoorVcH
set_option linter.unusedSimpArgs false
set_option linter.unusedVariables false
namespace Go.Vc
open Go

section
variable {κ ν : Type} [DecidableEq κ]

/-- the place of a key in a list of entries. -/
def mIdx (m : List (κ × ν)) (k : κ) : Option Nat := m.findIdx? fun p => decide (p.1 = k)
def mGet (m : List (κ × ν)) (k : κ) : Option ν := match m with
  | [] => none
  | p :: m => if p.1 = k then some p.2 else mGet m k
def mPut (m : List (κ × ν)) (k : κ) (v : ν) : List (κ × ν) := match m with
  | [] => [(k, v)]
  | p :: m => if p.1 = k then (k, v) :: m else p :: mPut m k v
def mDel (m : List (κ × ν)) (k : κ) : List (κ × ν) := match m with
  | [] => []
  | p :: m => if p.1 = k then m else p :: mDel m k
def mKeys (m : List (κ × ν)) : List κ := m.map (·.1)

theorem mGet_put (m : List (κ × ν)) (k : κ) (v : ν) (q : κ) : mGet (mPut m k v) q = if k = q then some v else mGet m q := by
  induction m with
  | nil => simp [mPut, mGet]
  | cons p m ih =>
    by_cases h : p.1 = k
    · subst h
      by_cases hq : p.1 = q <;> simp [mPut, mGet, hq]
    · by_cases hq : p.1 = q
      · subst hq; simp [mPut, mGet, h, Ne.symm h]
      · simp [mPut, mGet, h, hq, ih]
theorem mKeys_put (m : List (κ × ν)) (k : κ) (v : ν) (q : κ) : q ∈ mKeys (mPut m k v) ↔ q = k ∨ q ∈ mKeys m := by
  induction m with
  | nil => simp [mPut, mKeys]
  | cons p m ih =>
    by_cases h : p.1 = k
    · subst h; simp [mPut, mKeys]
    · simp only [mPut, if_neg h, mKeys, List.map_cons, List.mem_cons] at ih ⊢
      rw [ih]
      exact ⟨fun h => h.elim (fun h => .inr (.inl h)) (fun h => h.elim .inl (fun h => .inr (.inr h))), fun h => h.elim (fun h => .inr (.inl h)) (fun h => h.elim .inl (fun h => .inr (.inr h)))⟩
theorem mNodup_put {m : List (κ × ν)} (hn : (mKeys m).Nodup) (k : κ) (v : ν) : (mKeys (mPut m k v)).Nodup := by
  induction m with
  | nil => simp [mPut, mKeys]
  | cons p m ih =>
    simp only [mKeys, List.map_cons, List.nodup_cons] at hn
    by_cases h : p.1 = k
    · subst h; simp only [mPut, if_true, mKeys, List.map_cons, List.nodup_cons]; exact hn
    · simp only [mPut, if_neg h, mKeys, List.map_cons, List.nodup_cons]
      refine ⟨fun hm => ?_, ih hn.2⟩
      rcases (mKeys_put m k v p.1).1 hm with e | e
      · exact h e
      · exact hn.1 e
theorem mGet_none {m : List (κ × ν)} {k : κ} : mGet m k = none ↔ k ∉ mKeys m := by
  induction m with
  | nil => simp [mGet, mKeys]
  | cons p m ih =>
    by_cases h : p.1 = k
    · subst h; simp [mGet, mKeys]
    · simp only [mGet, if_neg h, ih, mKeys, List.map_cons, List.mem_cons, not_or]
      exact ⟨fun hh => ⟨fun e => h e.symm, hh⟩, fun hh => hh.2⟩
theorem mGet_del {m : List (κ × ν)} (hn : (mKeys m).Nodup) (k q : κ) : mGet (mDel m k) q = if k = q then none else mGet m q := by
  induction m with
  | nil => simp [mDel, mGet]
  | cons p m ih =>
    simp only [mKeys, List.map_cons, List.nodup_cons] at hn
    by_cases h : p.1 = k
    · subst h
      by_cases hq : p.1 = q
      · subst hq; simp [mDel, mGet_none.2 hn.1]
      · simp [mDel, mGet, hq]
    · by_cases hq : p.1 = q
      · subst hq; simp [mDel, mGet, h, Ne.symm h]
      · simp [mDel, mGet, h, hq, ih hn.2]
theorem mDel_sub (m : List (κ × ν)) (k : κ) : (mDel m k).Sublist m := by
  induction m with
  | nil => exact List.Sublist.refl _
  | cons p m ih =>
    by_cases h : p.1 = k
    · simp [mDel, h]
    · simp only [mDel, if_neg h]; exact ih.cons_cons p
theorem mNodup_del {m : List (κ × ν)} (hn : (mKeys m).Nodup) (k : κ) : (mKeys (mDel m k)).Nodup := ((mDel_sub m k).map _).nodup hn

/-- how keys and values stand as values, and that '==' on keys is their equality. -/
structure Mk (P : Program) (T kt et : TypeId) (κ ν : Type) [DecidableEq κ] where
  ek : κ → Value
  ev : ν → Value
  und : P.underlying T = some (.map kt et)
  find : ∀ (k : κ) (es : List MapEntry) (m : List (κ × ν)) (w : World), es.map (fun e => (e.key, e.val)) = m.map (fun p => (ek p.1, ev p.2)) →
    (Instr.findKey kt (ek k) es).run P w = .ok ((mIdx m k).bind fun i => (m[i]?).map fun p => (i, ev p.2)) w
  check : ∀ (k : κ) (b : Bool) (w : World), (Instr.checkKey b 10000 kt (ek k)).run P w = .ok () w
  bits : ∀ k, Instr.sameBits 10000 (ek k) (ek k) = true

variable {P : Program} {T kt et : TypeId}

/-- a map's block reads as a list of entries. -/
def MapAt (M : Mk P T kt et κ ν) (h : Heap) (r : Nat) (m : List (κ × ν)) : Prop :=
  ∃ es clock, h[r]? = some (.map es clock) ∧ es.toList.map (fun e => (e.key, e.val)) = m.map (fun p => (M.ek p.1, M.ev p.2)) ∧ (mKeys m).Nodup ∧
    (∀ e ∈ es.toList, e.born < clock) ∧ (es.toList.map (·.born)).Nodup

theorem MapAt.lt {M : Mk P T kt et κ ν} {h : Heap} {r : Nat} {m : List (κ × ν)} (hm : MapAt M h r m) : r < h.size := by
  obtain ⟨es, clock, hb, _⟩ := hm; exact at_lt hb
theorem MapAt.upd {M : Mk P T kt et κ ν} {h h' : Heap} {r : Nat} {m : List (κ × ν)} {S : Nat → Prop} (hm : MapAt M h r m) (u : Upd S h h') (hs : ¬ S r) : MapAt M h' r m := by
  obtain ⟨es, clock, hb, rest⟩ := hm; exact ⟨es, clock, u.at hb hs, rest⟩
theorem MapAt.keep {M : Mk P T kt et κ ν} {h h' : Heap} {r : Nat} {m : List (κ × ν)} (hm : MapAt M h r m) (u : Keep h.size h h') : MapAt M h' r m := by
  obtain ⟨es, clock, hb, rest⟩ := hm; exact ⟨es, clock, u.at hb (at_lt hb), rest⟩
theorem MapAt.new (M : Mk P T kt et κ ν) (h : Heap) : MapAt M (h.push (.map #[] 0)) h.size [] := ⟨#[], 0, push_at _ _, rfl, List.nodup_nil, by simp, by simp⟩

theorem mIdx_get (m : List (κ × ν)) (k : κ) : ((mIdx m k).bind fun i => m[i]?).map (·.2) = mGet m k := by
  induction m with
  | nil => rfl
  | cons p m ih =>
    by_cases h : p.1 = k
    · simp [mIdx, List.findIdx?_cons, h, mGet]
    · simp only [mGet, if_neg h, ← ih]
      simp only [mIdx, List.findIdx?_cons, h, decide_false, Bool.false_eq_true, if_false]
      cases m.findIdx? fun p => decide (p.1 = k) with
      | none => rfl
      | some i => simp
theorem mIdx_put (m : List (κ × ν)) (k : κ) (v : ν) : mPut m k v = match mIdx m k with | some i => m.set i (k, v) | none => m ++ [(k, v)] := by
  induction m with
  | nil => rfl
  | cons p m ih =>
    by_cases h : p.1 = k
    · simp [mIdx, List.findIdx?_cons, h, mPut]
    · simp only [mPut, if_neg h, ih]
      simp only [mIdx, List.findIdx?_cons, h, decide_false, Bool.false_eq_true, if_false]
      cases m.findIdx? fun p => decide (p.1 = k) with
      | none => rfl
      | some i => simp
theorem mIdx_del (m : List (κ × ν)) (k : κ) : mDel m k = match mIdx m k with | some i => m.eraseIdx i | none => m := by
  induction m with
  | nil => rfl
  | cons p m ih =>
    by_cases h : p.1 = k
    · simp [mIdx, List.findIdx?_cons, h, mDel]
    · simp only [mDel, if_neg h, ih]
      simp only [mIdx, List.findIdx?_cons, h, decide_false, Bool.false_eq_true, if_false]
      cases m.findIdx? fun p => decide (p.1 = k) with
      | none => rfl
      | some i => simp
theorem mIdx_lt {m : List (κ × ν)} {k : κ} {i : Nat} (h : mIdx m k = some i) : ∃ hi : i < m.length, m[i].1 = k := by
  have := List.findIdx?_eq_some_iff_getElem.1 h
  obtain ⟨hi, h1, _⟩ := this
  exact ⟨hi, by simpa using h1⟩

/-- a look-up. -/
theorem reads_lookup {M : Mk P T kt et κ ν} {h : Heap} {r : Nat} {m : List (κ × ν)} {k : κ} {z : Value} (hm : MapAt M h r m) (hz : (P.info? et).bind (·.zero) = some z) :
    Reads P (Instr.lookup T (.map (some r)) (M.ek k) false) h (match mGet m k with | some v => M.ev v | none => z) ∧
    Reads P (Instr.lookup T (.map (some r)) (M.ek k) true) h (.tuple #[match mGet m k with | some v => M.ev v | none => z, .bool (mGet m k).isSome]) := by
  obtain ⟨es, clock, hb, he, hn, _, _⟩ := hm
  have zero : ∀ w : World, (zeroValue et).run P w = .ok z w := fun w => by
    cases hi : P.info? et with
    | none => simp [hi] at hz
    | some i => simp [hi] at hz; simp [zeroValue, typeInfo, hi, hz]
  have key : ∀ ok (w : World), w.heap = h → (Instr.lookup T (.map (some r)) (M.ek k) ok).run P w = .ok (if ok then .tuple #[match mGet m k with | some v => M.ev v | none => z, .bool (mGet m k).isSome] else match mGet m k with | some v => M.ev v | none => z) w := by
    intro ok w hw
    subst hw
    have hget : (getObj r).run P w = .ok (.map es clock) w := by simp [getObj, Sem.run, hb]
    have hfind := M.find k es.toList m w he
    have hig := mIdx_get m k
    simp only [Instr.lookup, Sem.run_bind, run_underlying M.und, Result.andThen_ok, hget, Sem.run_pure, M.check, hfind]
    cases hi : mIdx m k with
    | none =>
      rw [hi] at hig
      simp at hig
      simp [← hig, zero]
      all_goals (cases ok <;> rfl)
    | some i =>
      obtain ⟨hlt, _⟩ := mIdx_lt hi
      rw [hi] at hig
      simp [hlt] at hig
      simp [hlt, ← hig]
      all_goals (cases ok <;> rfl)
  exact ⟨⟨fun w hw => key false w hw⟩, ⟨fun w hw => key true w hw⟩⟩

theorem reads_lookup_nil {M : Mk P T kt et κ ν} {h : Heap} {k : κ} {z : Value} (hz : (P.info? et).bind (·.zero) = some z) :
    Reads P (Instr.lookup T (.map none) (M.ek k) false) h z := ⟨fun w _ => by
  have zero : ∀ w : World, (zeroValue et).run P w = .ok z w := fun w => by
    cases hi : P.info? et with
    | none => simp [hi] at hz
    | some i => simp [hi] at hz; simp [zeroValue, typeInfo, hi, hz]
  have hfind := M.find k [] [] w rfl
  simp [Instr.lookup, run_underlying M.und, M.check, hfind, mIdx, zero]⟩

theorem run_setObj {w : World} {r : Nat} {es : Array MapEntry} {c : Nat} {o : Obj} (hb : w.heap[r]? = some (.map es c)) : (setObj r o).run P w = .ok () { w with heap := w.heap.setIfInBounds r o } := by
  simp [setObj, Sem.run, hb]
theorem setObj_upd (h : Heap) (r : Nat) (o : Obj) : Upd (fun i => i = r) h (h.setIfInBounds r o) := ⟨by simp, fun i _ hi => by rw [Array.getElem?_setIfInBounds_ne (Ne.symm hi)]⟩
theorem setObj_at {h : Heap} {r : Nat} {o : Obj} (hr : r < h.size) : (h.setIfInBounds r o)[r]? = some o := by simp [hr]

/-- a store. -/
theorem svc_mapUpdate {M : Mk P T kt et κ ν} {h : Heap} {r : Nat} {m : List (κ × ν)} {k : κ} {v : ν} {K : Unit → Heap → Prop} (hm : MapAt M h r m)
    (kk : ∀ h', h'.size = h.size → Upd (fun i => i = r) h h' → MapAt M h' r (mPut m k v) → K () h') : SVC P (Instr.mapUpdate T (.map (some r)) (M.ek k) (M.ev v)) h K := by
  refine ⟨fun w hw => ?_⟩
  subst hw
  have hlt := hm.lt
  have hnd := mNodup_put (v := v) (m := m) (k := k)
  obtain ⟨es, clock, hb, he, hn, hc, hbn⟩ := hm
  have hget : (getObj r).run P w = .ok (.map es clock) w := by simp [getObj, Sem.run, hb]
  have hfind := M.find k es.toList m w he
  have hlen : es.toList.length = m.length := by have := congrArg List.length he; simpa using this
  have hput := mIdx_put m k v
  cases hi : mIdx m k with
  | none =>
    rw [hi] at hfind hput
    simp only at hput
    refine ⟨(), { w with heap := w.heap.setIfInBounds r (.map (es.push { key := M.ek k, val := M.ev v, born := clock }) (clock + 1)) }, ?_, Sane.set hb rfl rfl, kk _ (by simp) (setObj_upd _ _ _)
      ⟨_, _, setObj_at hlt, ?_, hnd hn, ?_, ?_⟩⟩
    · simp only [Instr.mapUpdate, Sem.run_bind, run_underlying M.und, Result.andThen_ok, hget, M.check, hfind, Option.bind_none]
      exact run_setObj hb
    · rw [hput]; simp [he]
    · intro e hm
      simp at hm
      rcases hm with hm | rfl
      · have := hc e (by simpa using hm); omega
      · simp
    · simp only [Array.toList_push, List.map_append, List.map_cons, List.map_nil]
      refine List.nodup_append.2 ⟨hbn, by simp, fun a ha b hb' => ?_⟩
      simp at hb'; subst hb'
      obtain ⟨e, hem, rfl⟩ := List.mem_map.1 ha
      have := hc e hem
      omega
  | some i =>
    obtain ⟨hlt', hkey⟩ := mIdx_lt hi
    rw [hi] at hfind hput
    simp only at hput
    have hie : i < es.size := by have : es.toList.length = es.size := by simp
                                 omega
    have heq : (es[i].key, es[i].val) = (M.ek m[i].1, M.ev m[i].2) := by
      have := congrArg (fun l => l[i]?) he
      simp [hie, hlt'] at this
      exact Prod.ext this.1 this.2
    have hk' : es[i].key = M.ek k := by have := congrArg Prod.fst heq; simp at this; rw [this, hkey]
    have hold : ((es[i]?).map (·.key)).getD (M.ek k) = M.ek k := by simp [hie, hk']
    refine ⟨(), { w with heap := w.heap.setIfInBounds r (.map (es.modify i fun e => { e with key := M.ek k, val := M.ev v }) clock) }, ?_, Sane.set hb rfl rfl, kk _ (by simp) (setObj_upd _ _ _)
      ⟨_, _, setObj_at hlt, ?_, hnd hn, ?_, ?_⟩⟩
    · have hstay : (Instr.keyThatStays (M.ek k) (M.ek k)).run P w = .ok (M.ek k) w := by unfold Instr.keyThatStays; rw [if_pos (M.bits k)]; rfl
      simp only [Instr.mapUpdate, Sem.run_bind, run_underlying M.und, Result.andThen_ok, hget, M.check, hfind, Option.bind_some, List.getElem?_eq_getElem hlt', Option.map_some, hold, hstay]
      exact run_setObj hb
    · rw [hput]
      apply List.ext_getElem?
      intro j
      have hj := congrArg (fun l => l[j]?) he
      simp only [List.getElem?_map, Array.getElem?_toList] at hj
      simp only [List.getElem?_map, Array.getElem?_toList, Array.getElem?_modify, List.getElem?_set]
      by_cases hji : i = j
      · subst hji; simp [hie, hlt']
      · simp [hji]; exact hj
    · intro e hm
      obtain ⟨j, hj, rfl⟩ := List.getElem_of_mem hm
      simp only [Array.length_toList, Array.size_modify] at hj
      simp only [Array.getElem_toList, Array.getElem_modify]
      split
      · rename_i hij
        subst hij
        exact hc es[i] (by simp)
      · exact hc _ (by simp)
    · have : ((es.modify i fun e => { e with key := M.ek k, val := M.ev v }).toList.map (·.born)) = es.toList.map (·.born) := by
        apply List.ext_getElem?
        intro j
        simp only [List.getElem?_map, Array.getElem?_toList, Array.getElem?_modify]
        by_cases hji : i = j
        · subst hji; simp [hie]
        · simp [hji]
      rw [this]; exact hbn

theorem map_erase {α β : Type} (f : α → β) : ∀ (l : List α) (i : Nat), (l.eraseIdx i).map f = (l.map f).eraseIdx i
  | [], _ => rfl
  | _ :: _, 0 => rfl
  | a :: l, i + 1 => by simp [List.eraseIdx, map_erase f l i]
/-- a delete. -/
theorem svc_delete {M : Mk P T kt et κ ν} {h : Heap} {r : Nat} {m : List (κ × ν)} {k : κ} {ty t2 : TypeId} {K : Value → Heap → Prop} (hm : MapAt M h r m)
    (kk : ∀ h', h'.size = h.size → Upd (fun i => i = r) h h' → MapAt M h' r (mDel m k) → K (.tuple #[]) h') : SVC P (Builtin.delete_ #[T, t2] ty #[.map (some r), M.ek k]) h K := by
  refine ⟨fun w hw => ?_⟩
  subst hw
  have hlt := hm.lt
  have hnd := mNodup_del (m := m) (k := k)
  obtain ⟨es, clock, hb, he, hn, hc, hbn⟩ := hm
  have hget : (getObj r).run P w = .ok (.map es clock) w := by simp [getObj, Sem.run, hb]
  have hfind := M.find k es.toList m w he
  have hlen : es.toList.length = m.length := by have := congrArg List.length he; simpa using this
  have hdel := mIdx_del m k
  cases hi : mIdx m k with
  | none =>
    rw [hi] at hfind hdel
    simp only at hdel
    refine ⟨.tuple #[], { w with heap := w.heap.setIfInBounds r (.map es clock) }, ?_, Sane.set hb rfl rfl, kk _ (by simp) (setObj_upd _ _ _) ⟨_, _, setObj_at hlt, by rw [hdel]; exact he, hnd hn, hc, hbn⟩⟩
    simp [Builtin.delete_, run_underlying M.und, hget, M.check, hfind, run_setObj hb]
  | some i =>
    obtain ⟨hlt', hkey⟩ := mIdx_lt hi
    rw [hi] at hfind hdel
    simp only at hdel
    have hie : i < es.size := by have : es.toList.length = es.size := by simp
                                 omega
    have hel : (es.eraseIdxIfInBounds i).toList = es.toList.eraseIdx i := by simp [Array.eraseIdxIfInBounds, hie]
    refine ⟨.tuple #[], { w with heap := w.heap.setIfInBounds r (.map (es.eraseIdxIfInBounds i) clock) }, ?_, Sane.set hb rfl rfl, kk _ (by simp) (setObj_upd _ _ _)
      ⟨_, _, setObj_at hlt, ?_, hnd hn, ?_, ?_⟩⟩
    · simp [Builtin.delete_, run_underlying M.und, hget, M.check, hfind, hlt', run_setObj hb]
    · rw [hel, hdel, map_erase, he, map_erase]
    · rw [hel]; exact fun e hm => hc e (List.mem_of_mem_eraseIdx hm)
    · rw [hel, map_erase]; exact hbn.sublist (List.eraseIdx_sublist _ _)

/-- how many entries. -/
theorem reads_len_map {M : Mk P T kt et κ ν} {h : Heap} {r : Nat} {m : List (κ × ν)} {ty : TypeId} (hm : MapAt M h r m) : Reads P (Builtin.len_ #[T] ty #[.map (some r)]) h (.int .i64 m.length) := by
  obtain ⟨es, clock, hb, he, hn, hc, hbn⟩ := hm
  refine ⟨fun w hw => ?_⟩
  subst hw
  have hget : (getObj r).run P w = .ok (.map es clock) w := by simp [getObj, Sem.run, hb]
  have hlen : es.size = m.length := by have := congrArg List.length he; simpa using this
  simp [Builtin.len_, run_underlying M.und, hget, goInt, hlen]

/- ------------------------------------------------------------------ keys of strings, and of whole numbers -/

theorem findNow_eq {κ ν : Type} [DecidableEq κ] {d : TypeDesc} {ek : κ → Value} {ev : ν → Value} (hs : ∀ a b, Instr.sameNow d (ek a) (ek b) = some (decide (b = a))) (k : κ) :
    ∀ (es : List MapEntry) (m : List (κ × ν)) (i : Nat), es.map (fun e => (e.key, e.val)) = m.map (fun p => (ek p.1, ev p.2)) →
    Instr.findNow d (ek k) es i = some ((mIdx m k).bind fun j => (m[j]?).map fun p => (i + j, ev p.2))
  | [], [], i, _ => rfl
  | [], _ :: _, i, h => by simp at h
  | _ :: _, [], i, h => by simp at h
  | e :: es, p :: m, i, h => by
    simp only [List.map_cons, List.cons.injEq, Prod.mk.injEq] at h
    obtain ⟨⟨h1, h2⟩, h3⟩ := h
    unfold Instr.findNow
    rw [h1, hs]
    by_cases hk : p.1 = k
    · simp [mIdx, List.findIdx?_cons, hk, h2]
    · simp only [hk, decide_false]
      rw [findNow_eq hs k es m (i + 1) h3]
      simp only [mIdx, List.findIdx?_cons, hk, decide_false, Bool.false_eq_true, if_false]
      cases m.findIdx? fun p => decide (p.1 = k) with
      | none => rfl
      | some j => simp [Nat.add_assoc, Nat.add_comm 1]

theorem beq_dec (a b : ByteArray) : (a == b) = decide (b = a) := by
  rw [beq_toListBytes]
  cases h : a.toList == b.toList with
  | true =>
    have : a = b := by
      have := by simpa using h
      rw [ByteArray.toList_eq, ByteArray.toList_eq] at this
      cases a; cases b; congr 1; exact Array.toList_inj.1 this
    simp [this]
  | false =>
    have : b ≠ a := fun e => by subst e; simp at h
    simp [this]

theorem bits_string (n : Nat) (k : ByteArray) : Instr.sameBits n (.string k) (.string k) = true := by
  have : (k == k) = true := by rw [beq_dec]; simp
  cases n <;> simp only [Instr.sameBits] <;> exact this
theorem bits_int (n : Nat) (ik : IntKind) (k : Int) : Instr.sameBits n (.int ik k) (.int ik k) = true := by cases n <;> simp [Instr.sameBits]
theorem check_string {kt : TypeId} (hk : P.underlying kt = some .string) (n : Nat) (b : Bool) (k : ByteArray) (w : World) : (Instr.checkKey b (n + 1) kt (.string k)).run P w = .ok () w := by
  unfold Instr.checkKey; simp only [Sem.run_bind, run_underlying hk, Result.andThen_ok]; rfl
theorem check_int {kt : TypeId} {ik : IntKind} (hk : P.underlying kt = some (.int ik)) (n : Nat) (b : Bool) (k : Int) (w : World) : (Instr.checkKey b (n + 1) kt (.int ik k)).run P w = .ok () w := by
  unfold Instr.checkKey; simp only [Sem.run_bind, run_underlying hk, Result.andThen_ok]; rfl
/-- a map keyed by strings. -/
def strMk (P : Program) (T kt et : TypeId) (ν : Type) (ev : ν → Value) (hT : P.underlying T = some (.map kt et)) (hk : P.underlying kt = some .string) : Mk P T kt et ByteArray ν where
  ek := .string
  ev := ev
  und := hT
  find := fun k es m w he => by
    have := findNow_eq (d := .string) (ek := Value.string) (ev := ev) (fun a b => by simp only [Instr.sameNow]; rw [beq_dec]) k es m 0 he
    simp [Instr.findKey, run_underlying hk, this]
  check := fun k b w => check_string hk 9999 b k w
  bits := fun k => bits_string _ k
/-- a map keyed by whole numbers. -/
def intMk (P : Program) (T kt et : TypeId) (ik : IntKind) (ν : Type) (ev : ν → Value) (hT : P.underlying T = some (.map kt et)) (hk : P.underlying kt = some (.int ik)) : Mk P T kt et Int ν where
  ek := .int ik
  ev := ev
  und := hT
  find := fun k es m w he => by
    have := findNow_eq (d := .int ik) (ek := Value.int ik) (ev := ev) (fun a b => by
      simp only [Instr.sameNow, if_true]
      congr 1
      by_cases h : a = b
      · subst h; simp
      · simp [h, Ne.symm h]) k es m 0 he
    simp [Instr.findKey, run_underlying hk, this]
  check := fun k b w => check_int hk 9999 b k w
  bits := fun k => bits_int _ ik k
end
end Go.Vc
