/-
  The plain law of Apply: the changes from one list to another make the other of the one. Conditions: lists by rising keys.
-/
import Derived.Test.YtepnckpaknabpaaA2
set_option linter.unusedVariables false
namespace Go.Proofs.Ytepnckpaknabpaa
open Go Go.Vc Go.Proofs

theorem ent_ext {us vs : List Pr} (hu : Srt (ks us)) (hv : Srt (ks vs)) (h : ∀ k, entL us k = entL vs k) : us = vs := by
  have hm : Like (putS us []) vs := ⟨hv, fun k => by rw [(putS_like hu).2 k, h k]⟩
  have hk : ∀ q, q ∈ ks us ↔ q ∈ mKeys (putS us []) := fun q => by
    rw [mem_mGet, (putS_like hu).2 q, ← ent_mem]
    cases (entL us q).2 <;> simp
  rw [← (putS_like hu).keys hu hk, ← hm.keys hu hk]
theorem done_srt (k v : Str) (b : Bool) {us : List Pr} (h : Srt (ks us)) : Srt (ks (doneGo k v us b)) := by
  cases b with
  | true => exact (done_srt_true k v us h).1
  | false => exact (doneGo_srt k v us h).1
def newE (c : Chg) : Str × Bool := if c.is_ then (c.n, true) else (⟨#[]⟩, false)
theorem done_ent (c : Chg) (us : List Pr) (q : Str) : entL (doneGo c.k c.n us (!c.is_)) q = if q = c.k then newE c else entL us q := by
  unfold newE
  cases c.is_ with
  | true => exact done_ent_false c.k c.n q us
  | false => exact done_ent_true c.k c.n q us
/-- changes of different keys that fit. -/
theorem apply_fit : ∀ (cs : List Chg) (us : List Pr), Srt (ks us) → (cs.map (·.k)).Nodup → (∀ c ∈ cs, entL us c.k = (c.o, c.was)) →
    ∃ vs, applyL us cs = some vs ∧ Srt (ks vs) ∧ (∀ q, q ∉ cs.map (·.k) → entL vs q = entL us q) ∧ ∀ c ∈ cs, entL vs c.k = newE c
  | [], us, h, _, _ => ⟨us, rfl, h, fun _ _ => rfl, by simp⟩
  | c :: cs, us, h, hn, hf => by
    rw [List.map_cons, List.nodup_cons] at hn
    obtain ⟨vs, e, i1, i2, i3⟩ := apply_fit cs (doneGo c.k c.n us (!c.is_)) (done_srt _ _ _ h) hn.2 fun d hd => by
      rw [done_ent, if_neg (fun e => hn.1 (by rw [← e]; exact List.mem_map_of_mem hd))]
      exact hf d (List.mem_cons_of_mem _ hd)
    refine ⟨vs, ?_, i1, fun q hq => ?_, fun d hd => ?_⟩
    · rw [applyL, if_pos (eqE_iff.2 (hf c List.mem_cons_self)), e]
    · rw [List.map_cons, List.mem_cons, not_or] at hq
      rw [i2 q hq.2, done_ent, if_neg hq.1]
    · rcases List.mem_cons.1 hd with rfl | hd
      · rw [i2 _ hn.1, done_ent, if_pos rfl]
      · exact i3 d hd
theorem refL_facts (xs ys : List Pr) : ((refL xs ys).map (·.k)).Nodup ∧ ∀ c ∈ refL xs ys, entL xs c.k = (c.o, c.was) ∧ entL ys c.k = (c.n, c.is_) := by
  constructor
  · have h1 : (keysL [xs, ys]).Nodup := (keysL_srt [xs, ys]).1.imp fun {a b} h => ne_of_lt h
    have h2 : ((refL xs ys).map (·.k)).Sublist (keysL [xs, ys]) := by
      have : (((keysL [xs, ys]).map (chgOf xs ys)).map (·.k)) = keysL [xs, ys] := by
        rw [List.map_map]; conv => rhs; rw [← List.map_id (keysL [xs, ys])]
        exact List.map_congr_left fun _ _ => rfl
      conv => rhs; rw [← this]
      exact (List.filter_sublist).map _
    exact h2.nodup h1
  · intro c hc
    unfold refL at hc
    obtain ⟨hm, _⟩ := List.mem_filter.1 hc
    obtain ⟨q, _, rfl⟩ := List.mem_map.1 hm
    exact ⟨rfl, rfl⟩
theorem newE_of {c : Chg} {us : List Pr} (h : entL us c.k = (c.n, c.is_)) : newE c = entL us c.k := by
  unfold newE
  cases hi : c.is_ with
  | true => rw [h, hi]; rfl
  | false => rw [ent_false us c.k (by rw [h, hi])]; rfl
/-- the changes from one to the other make the other. -/
theorem apply_ref {xs ys : List Pr} (hx : Srt (ks xs)) (hy : Srt (ks ys)) : applyL xs (refL xs ys) = some ys := by
  obtain ⟨hn, hf⟩ := refL_facts xs ys
  obtain ⟨vs, e, i1, i2, i3⟩ := apply_fit (refL xs ys) xs hx hn fun c hc => (hf c hc).1
  rw [e]
  congr 1
  refine ent_ext i1 hy fun k => ?_
  by_cases hk : k ∈ (refL xs ys).map (·.k)
  · obtain ⟨c, hc, rfl⟩ := List.mem_map.1 hk
    rw [i3 c hc, newE_of (hf c hc).2]
  · rw [i2 k hk]
    refine Classical.byContradiction fun hne => hk ?_
    obtain ⟨c, hc, rfl⟩ := (ref_mem xs ys k).2 hne
    exact List.mem_map_of_mem hc
/-- and turned they lead back. -/
theorem apply_turn {xs ys : List Pr} (hx : Srt (ks xs)) (hy : Srt (ks ys)) : applyL ys (turnL (refL xs ys)) = some xs := by
  obtain ⟨hn, hf⟩ := refL_facts xs ys
  have hkeys : (turnL (refL xs ys)).map (·.k) = ((refL xs ys).map (·.k)).reverse := by
    unfold turnL
    rw [List.map_map, ← List.map_reverse]
    exact List.map_congr_left fun _ _ => rfl
  have hmem : ∀ c, c ∈ turnL (refL xs ys) ↔ ∃ d ∈ refL xs ys, c = turnC d := fun c => by
    unfold turnL
    simp only [List.mem_map, List.mem_reverse]
    exact ⟨fun ⟨d, h, e⟩ => ⟨d, h, e.symm⟩, fun ⟨d, h, e⟩ => ⟨d, h, e.symm⟩⟩
  obtain ⟨vs, e, i1, i2, i3⟩ := apply_fit (turnL (refL xs ys)) ys hy (by rw [hkeys]; exact (List.pairwise_reverse.2 (hn.imp fun {a b} h => Ne.symm h))) fun c hc => by
    obtain ⟨d, hd, rfl⟩ := (hmem c).1 hc
    exact (hf d hd).2
  rw [e]
  congr 1
  refine ent_ext i1 hx fun k => ?_
  by_cases hk : k ∈ (refL xs ys).map (·.k)
  · obtain ⟨d, hd, rfl⟩ := List.mem_map.1 hk
    have := i3 (turnC d) ((hmem _).2 ⟨d, hd, rfl⟩)
    exact this.trans (newE_of (c := turnC d) (hf d hd).1)
  · rw [i2 k (by rw [hkeys, List.mem_reverse]; exact hk)]
    refine Classical.byContradiction fun hne => hk ?_
    obtain ⟨c, hc, rfl⟩ := (ref_mem xs ys k).2 fun e => hne e.symm
    exact List.mem_map_of_mem hc
theorem apply_append : ∀ (cs ds : List Chg) (us : List Pr), applyL us (cs ++ ds) = (applyL us cs).bind fun vs => applyL vs ds
  | [], ds, us => rfl
  | c :: cs, ds, us => by
    rw [List.cons_append, applyL, applyL]
    split
    · exact apply_append cs ds _
    · rfl
end Go.Proofs.Ytepnckpaknabpaa
