/-
  Maps on a heap: a loop over a map's entries, in whichever order. Conditions: none.
-/
import Derived.Test.YtcihjdalokaokaaGreatDoorVcM
import Derived.Maps.RangeRun
set_option linter.unusedSimpArgs false
set_option linter.unusedVariables false
namespace Go.Vc
open Go
open Go.ChangeMaps (setBlock)

section
variable {κ ν : Type} [DecidableEq κ] {P : Program} {T kt et : TypeId}

/-- a loop over a map: what is left, and which entry was handed out last. -/
def IterAt (M : Mk P T kt et κ ν) (h : Heap) (i r : Nat) (m left : List (κ × ν)) (cur : Option (κ × ν)) : Prop :=
  ∃ es clock since seen last, h[r]? = some (.map es clock) ∧ es.toList.map (fun e => (e.key, e.val)) = m.map (fun p => (M.ek p.1, M.ev p.2)) ∧ (mKeys m).Nodup ∧
    (∀ e ∈ es.toList, e.born < clock) ∧ (es.toList.map (·.born)).Nodup ∧ h[i]? = some (.mapIter (some r) since seen last) ∧ (∀ e ∈ es.toList, e.born < since) ∧ since ≤ last ∧ since ≤ clock ∧
    (leftOf es seen).toList.map (fun e => (e.key, e.val)) = left.map (fun p => (M.ek p.1, M.ev p.2)) ∧
    (∀ p, cur = some p → ∃ e ∈ es.toList, ∃ s : Array Nat, seen = s.push e.born ∧ last = clock ∧ e.key = M.ek p.1 ∧ e.val = M.ev p.2)

theorem IterAt.map {M : Mk P T kt et κ ν} {h : Heap} {i r : Nat} {m left : List (κ × ν)} {cur : Option (κ × ν)} (hi : IterAt M h i r m left cur) : MapAt M h r m := by
  obtain ⟨es, clock, since, seen, last, a1, a2, a3, a4, a5, _⟩ := hi
  exact ⟨es, clock, a1, a2, a3, a4, a5⟩
theorem IterAt.ne {M : Mk P T kt et κ ν} {h : Heap} {i r : Nat} {m left : List (κ × ν)} {cur : Option (κ × ν)} (hi : IterAt M h i r m left cur) : i ≠ r := by
  obtain ⟨es, clock, since, seen, last, a1, _, _, _, _, a2, _⟩ := hi
  intro e; subst e; rw [a1] at a2; cases a2
theorem IterAt.lt {M : Mk P T kt et κ ν} {h : Heap} {i r : Nat} {m left : List (κ × ν)} {cur : Option (κ × ν)} (hi : IterAt M h i r m left cur) : i < h.size := by
  obtain ⟨es, clock, since, seen, last, a1, _, _, _, _, a2, _⟩ := hi
  exact at_lt a2
theorem IterAt.upd {M : Mk P T kt et κ ν} {h h' : Heap} {i r : Nat} {m left : List (κ × ν)} {cur : Option (κ × ν)} {S : Nat → Prop} (hi : IterAt M h i r m left cur) (u : Upd S h h') (hs : ¬ S i) (hr : ¬ S r) : IterAt M h' i r m left cur := by
  obtain ⟨es, clock, since, seen, last, a1, b1, b2, b3, b4, a2, rest⟩ := hi
  exact ⟨es, clock, since, seen, last, u.at a1 hr, b1, b2, b3, b4, u.at a2 hs, rest⟩

theorem svc_range {M : Mk P T kt et κ ν} {h : Heap} {r : Nat} {m : List (κ × ν)} {K : Value → Heap → Prop} (hm : MapAt M h r m)
    (k : ∀ h', Keep h.size h h' → h'.size = h.size + 1 → IterAt M h' h.size r m m none → K (.pointer (some ⟨h.size, 0, none⟩)) h') : SVC P (Instr.range T (.map (some r))) h K := by
  obtain ⟨es, clock, hb, he, hn, hc, hbn⟩ := hm
  refine ⟨fun w hw => ?_⟩
  subst hw
  refine ⟨.pointer (some ⟨w.heap.size, 0, none⟩), w.alloc (.mapIter (some r) clock #[] clock), ?_, Sane.push rfl, k _ (Keep.push _ _ _ (Nat.le_refl _)) (by show (w.heap.push _).size = _; simp) ⟨es, clock, clock, #[], clock, ?_, he, hn, hc, hbn, ?_, hc, Nat.le_refl _, Nat.le_refl _, ?_, fun p hp => by cases hp⟩⟩
  · have hget : (getObj r).run P w = .ok (.map es clock) w := by simp [getObj, Sem.run, hb]
    simp only [Instr.range, Sem.run_bind, run_underlying M.und, Result.andThen_ok, hget, Sem.run_pure, run_newObj]
    rfl
  · exact push_old _ _ (at_lt hb) |>.trans hb
  · exact push_at _ _
  · rw [leftOf, Array.toList_filter, List.filter_eq_self.2 (by simp)]; exact he

theorem filter_born {l : List MapEntry} {seen : Array Nat} {e : MapEntry} (hn : (l.map (·.born)).Nodup) (he : e ∈ l.filter fun e => !seen.contains e.born) :
    ∃ j, (l.filter fun e => !seen.contains e.born)[j]? = some e ∧ l.filter (fun x => !(seen.push e.born).contains x.born) = (l.filter fun e => !seen.contains e.born).eraseIdx j := by
  have hf : l.filter (fun x => !(seen.push e.born).contains x.born) = (l.filter fun e => !seen.contains e.born).filter fun x => decide (x.born ≠ e.born) := by
    rw [List.filter_filter]
    apply List.filter_congr
    intro x _
    simp only [Array.contains_push]
    by_cases hx : x.born = e.born <;> simp [hx]
  have hnd : ((l.filter fun e => !seen.contains e.born).map (·.born)).Nodup := hn.sublist (List.filter_sublist.map _)
  rw [hf]
  generalize (l.filter fun e => !seen.contains e.born) = L at he hnd
  clear hf hn
  induction L with
  | nil => cases he
  | cons y L ih =>
    simp only [List.map_cons, List.nodup_cons] at hnd
    rcases List.mem_cons.1 he with rfl | he
    · refine ⟨0, rfl, ?_⟩
      simp only [List.eraseIdx_cons_zero, ne_eq, List.filter_cons, not_true_eq_false, decide_false, Bool.false_eq_true, if_false]
      exact List.filter_eq_self.2 fun x hx => by
        simp only [decide_eq_true_eq]
        exact fun hb => hnd.1 (hb ▸ List.mem_map_of_mem hx)
    · obtain ⟨j, h1, h2⟩ := ih he hnd.2
      refine ⟨j + 1, by simpa using h1, ?_⟩
      have : y.born ≠ e.born := fun hb => hnd.1 (hb ▸ List.mem_map_of_mem he)
      simp only [List.filter_cons, this, ne_eq, not_false_eq_true, decide_true, if_true, List.eraseIdx_cons_succ]
      rw [← h2]

theorem svc_next {M : Mk P T kt et κ ν} {h : Heap} {i r : Nat} {m left : List (κ × ν)} {cur : Option (κ × ν)} {ty : TypeId} {K : Value → Heap → Prop} (hi : IterAt M h i r m left cur)
    (k0 : left = [] → K (.tuple #[.bool false]) h)
    (k1 : ∀ j p h', left[j]? = some p → Upd (fun b => b = i) h h' → h'.size = h.size → IterAt M h' i r m (left.eraseIdx j) (some p) → K (.tuple #[.bool true, M.ek p.1, M.ev p.2]) h') :
    SVC P (Instr.next (.pointer (some ⟨i, 0, none⟩)) false ty) h K := by
  have hne := hi.ne
  obtain ⟨es, clock, since, seen, last, hb, he, hn, hc, hbn, hit, hs, hsl, hsc, hleft, hcur⟩ := hi
  refine ⟨fun w hw => ?_⟩
  subst hw
  rcases run_next_at (P := P) w ty i r since last seen es clock hit hb hs hsl with ⟨h0, hr⟩ | ⟨e, hel, w1, hw1, hr⟩
  · refine ⟨_, w, hr, Sane.refl w, k0 ?_⟩
    have : (leftOf es seen).toList = [] := by rw [← Array.length_toList] at h0; exact List.eq_nil_of_length_eq_zero h0
    rw [this] at hleft
    simpa using hleft.symm
  · have hh : w1.heap = w.heap := by rcases hw1 with rfl | rfl <;> rfl
    have hh2 : (setBlock w1 i (.mapIter (some r) since (seen.push e.born) clock)).heap = w.heap.setIfInBounds i (.mapIter (some r) since (seen.push e.born) clock) := by
      show w1.heap.setIfInBounds _ _ = _; rw [hh]
    have hle : e ∈ es.toList.filter fun e => !seen.contains e.born := by
      have : (leftOf es seen).toList = es.toList.filter fun e => !seen.contains e.born := by simp [leftOf]
      rw [← this]; exact hel
    obtain ⟨j, hj, hfj⟩ := filter_born hbn hle
    have hlt : (leftOf es seen).toList = es.toList.filter fun e => !seen.contains e.born := by simp [leftOf]
    rw [hlt] at hleft
    have hjm := congrArg (fun l => l[j]?) hleft
    simp only [List.getElem?_map, hj, Option.map_some] at hjm
    cases hp : left[j]? with
    | none => rw [hp] at hjm; cases hjm
    | some p =>
      rw [hp] at hjm
      simp only [Option.map_some, Option.some.injEq, Prod.mk.injEq] at hjm
      rw [hjm.1, hjm.2] at hr
      have hem : e ∈ es.toList := (List.mem_filter.1 hle).1
      have upd : Upd (fun b => b = i) w.heap (w.heap.setIfInBounds i (.mapIter (some r) since (seen.push e.born) clock)) := setObj_upd _ _ _
      refine ⟨_, _, hr, ?_, ?_⟩
      · rcases hw1 with rfl | rfl <;> exact Sane.set hit rfl hh2
      · rw [hh2]
        refine k1 j p _ hp upd (by simp) ⟨es, clock, since, seen.push e.born, clock, upd.at hb (fun e => hne e.symm), he, hn, hc, hbn, setObj_at (at_lt hit), hs, hsc, hsc, ?_, ?_⟩
        · have : (leftOf es (seen.push e.born)).toList = es.toList.filter fun x => !(seen.push e.born).contains x.born := by simp only [leftOf, Array.toList_filter]
          rw [this, hfj, map_erase, hleft, map_erase]
        · intro q hq
          cases hq
          exact ⟨e, hem, seen, rfl, rfl, hjm.1, hjm.2⟩

theorem reads_entry {M : Mk P T kt et κ ν} {h : Heap} {i r : Nat} {m left : List (κ × ν)} {p : κ × ν} (hi : IterAt M h i r m left (some p)) :
    Reads P (Instr.entry (.pointer (some ⟨i, 0, none⟩))) h (.tuple #[M.ek p.1, M.ev p.2]) := by
  obtain ⟨es, clock, since, seen, last, hb, he, hn, hc, hbn, hit, hs, hsl, hsc, hleft, hcur⟩ := hi
  obtain ⟨e, hem, s, rfl, rfl, hk, hv⟩ := hcur p rfl
  refine ⟨fun w hw => ?_⟩
  subst hw
  rw [run_entry_at (P := P) w i r since s es _ e hit hb hem hbn, hk, hv]

end
end Go.Vc
