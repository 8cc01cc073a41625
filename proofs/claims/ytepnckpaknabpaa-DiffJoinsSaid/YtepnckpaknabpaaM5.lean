/-
  The plain law of merge: sides turned, a side that is the base, entries by keys, sides apart. Conditions: lists by rising keys where stated.
-/
import Derived.Test.YtepnckpaknabpaaM3
set_option linter.unusedVariables false
namespace Go.Proofs.Ytepnckpaknabpaa
open Go Go.Vc Go.Proofs

theorem keys3_srt (xs ys zs : List Pr) : Srt (keys3 xs ys zs) := (keysL_srt _).1
theorem keys3_mem (xs ys zs : List Pr) (q : Str) : q ∈ keys3 xs ys zs ↔ q ∈ ks xs ∨ q ∈ ks ys ∨ q ∈ ks zs := by
  unfold keys3
  rw [(keysL_srt _).2]
  simp only [ks, List.flatten_cons, List.flatten_nil, List.append_nil, List.map_append, List.mem_append]
theorem eqE_self (a : Str × Bool) : eqE a a = true := eqE_iff.2 rfl
theorem eqE_comm (a b : Str × Bool) : eqE a b = eqE b a := by
  rw [Bool.eq_iff_iff, eqE_iff, eqE_iff]; exact ⟨Eq.symm, Eq.symm⟩
theorem badF_turn (xs ys zs : List Pr) (k : Str) : badF xs zs ys k = badF xs ys zs k := by
  unfold badF
  rw [eqE_comm (entL zs k) (entL ys k)]
  generalize eqE (entL zs k) (entL xs k) = a
  generalize eqE (entL ys k) (entL xs k) = b
  generalize eqE (entL ys k) (entL zs k) = c
  cases a <;> cases b <;> cases c <;> rfl
theorem pickF_turn (xs ys zs : List Pr) (k : Str) (h : badF xs ys zs k = false) : pickF xs zs ys k = pickF xs ys zs k := by
  unfold pickF
  by_cases hy : eqE (entL ys k) (entL xs k) = true
  · by_cases hz : eqE (entL zs k) (entL xs k) = true
    · rw [if_pos hy, if_pos hz, eqE_iff.1 hy, eqE_iff.1 hz]
    · rw [if_pos hy, if_neg hz]
  · by_cases hz : eqE (entL zs k) (entL xs k) = true
    · rw [if_neg hy, if_pos hz]
    · rw [if_neg hy, if_neg hz]
      unfold badF at h
      simp only [Bool.not_eq_true] at hy hz
      rw [hy, hz] at h
      simp at h
      rw [eqE_iff.1 h]
theorem no_bad {xs ys zs : List Pr} {K : List Str} (h : K.filter (badF xs ys zs) = []) : ∀ k ∈ K, badF xs ys zs k = false := fun k hk => by
  have := List.filter_eq_nil_iff.1 h k hk
  simpa using this
theorem flatMap_congr' {α β : Type} {f g : α → List β} : ∀ {l : List α}, (∀ a ∈ l, f a = g a) → l.flatMap f = l.flatMap g
  | [], _ => rfl
  | a :: l, h => by rw [List.flatMap_cons, List.flatMap_cons, h a List.mem_cons_self, flatMap_congr' fun b hb => h b (List.mem_cons_of_mem _ hb)]
theorem merge_turn (xs ys zs : List Pr) : mB xs zs ys = mB xs ys zs ∧ mO xs zs ys = mO xs ys zs := by
  have hK : keys3 xs zs ys = keys3 xs ys zs := srt_ext (keys3_srt _ _ _) (keys3_srt _ _ _) fun q => by
    rw [keys3_mem, keys3_mem]
    exact ⟨fun h => h.elim .inl fun h => h.elim (fun h => .inr (.inr h)) (fun h => .inr (.inl h)), fun h => h.elim .inl fun h => h.elim (fun h => .inr (.inr h)) (fun h => .inr (.inl h))⟩
  have hB : mB xs zs ys = mB xs ys zs := by
    unfold mB
    rw [hK]
    exact List.filter_congr fun k _ => badF_turn xs ys zs k
  refine ⟨hB, ?_⟩
  unfold mO
  rw [hB, hK]
  cases he : (mB xs ys zs).isEmpty with
  | false => rfl
  | true =>
    simp only [if_true]
    refine flatMap_congr' fun k hk => ?_
    unfold outF
    rw [pickF_turn xs ys zs k (no_bad (by simpa [mB] using he) k hk)]

def showF (e : Str → Str × Bool) (k : Str) : List Pr := if (e k).2 then [(k, (e k).1)] else []
theorem flat_ent : ∀ (K : List Str) (ws : List Pr), Srt K → Srt (ks ws) → (∀ q ∈ ks ws, q ∈ K) → K.flatMap (showF (entL ws)) = ws
  | [], [], _, _, _ => rfl
  | [], p :: ws, _, _, h => by have := h p.1 (by simp [ks]); cases this
  | k :: K, [], hK, _, _ => by
    rw [List.flatMap_cons, flat_ent K [] (List.pairwise_cons.1 hK).2 List.Pairwise.nil (by simp [ks])]
    rfl
  | k :: K, p :: ws, hK, hw, h => by
    have hK' := List.pairwise_cons.1 hK
    have hw' := List.pairwise_cons.1 (show Srt (p.1 :: ks ws) from hw)
    rw [List.flatMap_cons]
    by_cases hk : p.1 = k
    · subst hk
      have e1 : showF (entL (p :: ws)) p.1 = [p] := by unfold showF; rw [ent_here]; rfl
      have e2 : K.flatMap (showF (entL (p :: ws))) = K.flatMap (showF (entL ws)) := flatMap_congr' fun q hq => by
        unfold showF; rw [ent_past (ne_of_lt (hK'.1 q hq))]
      rw [e1, e2, flat_ent K ws hK'.2 hw'.2 fun q hq => ?_]
      · rfl
      · have := h q (by simp only [ks, List.map_cons, List.mem_cons]; exact .inr hq)
        refine (List.mem_cons.1 this).resolve_left fun e => ?_
        have := hw'.1 q hq
        rw [e, lt_irrefl] at this; cases this
    · have hpK : p.1 ∈ K := (List.mem_cons.1 (h p.1 (by simp [ks]))).resolve_left hk
      have hlt := hK'.1 _ hpK
      have hno : k ∉ ks (p :: ws) := above fun q hq => by
        rcases List.mem_cons.1 (show q ∈ p.1 :: ks ws from hq) with rfl | hq
        · exact hlt
        · exact lt_trans hlt (hw'.1 q hq)
      have e1 : showF (entL (p :: ws)) k = [] := by unfold showF; rw [ent_none hno]; rfl
      rw [e1, List.nil_append]
      refine flat_ent K (p :: ws) hK'.2 hw fun q hq => (List.mem_cons.1 (h q hq)).resolve_left fun e => ?_
      subst e; exact hno hq
theorem outF_show (xs ys zs : List Pr) : outF xs ys zs = showF (pickF xs ys zs) := rfl
/-- nothing is bad, and what is picked is what one list has: the answer is that list. -/
theorem merge_one {xs ys zs ws : List Pr} (hw : Srt (ks ws)) (hb : ∀ k, badF xs ys zs k = false) (hp : ∀ k, pickF xs ys zs k = entL ws k) (hk : ∀ q ∈ ks ws, q ∈ keys3 xs ys zs) :
    mB xs ys zs = [] ∧ mO xs ys zs = ws := by
  have h1 : mB xs ys zs = [] := by unfold mB; exact List.filter_eq_nil_iff.2 fun k _ => by rw [hb]; simp
  refine ⟨h1, ?_⟩
  unfold mO
  rw [h1, outF_show, show pickF xs ys zs = entL ws from funext hp]
  exact flat_ent _ _ (keys3_srt _ _ _) hw hk
theorem merge_left {xs zs : List Pr} (hz : Srt (ks zs)) : mB xs xs zs = [] ∧ mO xs xs zs = zs :=
  merge_one hz (fun k => by unfold badF; rw [eqE_self]; rfl) (fun k => by unfold pickF; rw [if_pos (eqE_self _)]) fun q hq => (keys3_mem _ _ _ _).2 (.inr (.inr hq))
theorem merge_right {xs ys : List Pr} (hy : Srt (ks ys)) : mB xs ys xs = [] ∧ mO xs ys xs = ys :=
  merge_one hy (fun k => by unfold badF; rw [eqE_self]; simp) (fun k => by unfold pickF; split; · rename_i h; exact (eqE_iff.1 h).symm
                                                                           · rfl) fun q hq => (keys3_mem _ _ _ _).2 (.inr (.inl hq))
theorem merge_same {xs ys : List Pr} (hy : Srt (ks ys)) : mB xs ys ys = [] ∧ mO xs ys ys = ys :=
  merge_one hy (fun k => by unfold badF; rw [eqE_self (entL ys k)]; simp) (fun k => by unfold pickF; split <;> rfl) fun q hq => (keys3_mem _ _ _ _).2 (.inr (.inl hq))

/- entries -/
theorem ent_false : ∀ (ws : List Pr) (k : Str), (entL ws k).2 = false → entL ws k = (⟨#[]⟩, false)
  | [], _, _ => rfl
  | p :: ws, k, h => by
    unfold entL at h ⊢
    split
    · rename_i e; rw [if_pos e] at h; cases h
    · rename_i e; rw [if_neg e] at h; exact ent_false ws k h
theorem ent_show (e : Str → Str × Bool) (he : ∀ k, (e k).2 = false → e k = (⟨#[]⟩, false)) : ∀ (K : List Str) (k : Str), (k ∉ K → e k = (⟨#[]⟩, false)) → entL (K.flatMap (showF e)) k = e k
  | [], k, h => by rw [h (by simp)]; rfl
  | q :: K, k, h => by
    rw [List.flatMap_cons]
    cases hq : (e q).2 with
    | true =>
      have e1 : showF e q = [(q, (e q).1)] := by unfold showF; rw [if_pos hq]
      rw [e1, List.singleton_append]
      by_cases hk : q = k
      · subst hk; rw [ent_here (q, (e q).1)]; exact Prod.ext rfl hq.symm
      · rw [ent_past (a := (q, (e q).1)) hk]
        exact ent_show e he K k fun hn => h fun hm => (List.mem_cons.1 hm).elim (fun e => hk e.symm) hn
    | false =>
      have e1 : showF e q = [] := by unfold showF; rw [if_neg (by rw [hq]; simp)]
      rw [e1, List.nil_append]
      refine ent_show e he K k fun hn => ?_
      by_cases hk : q = k
      · subst hk; exact he q hq
      · exact h fun hm => (List.mem_cons.1 hm).elim (fun e => hk e.symm) hn
theorem pick_false (xs ys zs : List Pr) (k : Str) (h : (pickF xs ys zs k).2 = false) : pickF xs ys zs k = (⟨#[]⟩, false) := by
  unfold pickF at h ⊢
  split at h
  · rename_i e; rw [if_pos e]; exact ent_false _ _ h
  · rename_i e; rw [if_neg e]; exact ent_false _ _ h
theorem not_keys {xs ys zs : List Pr} {k : Str} (h : k ∉ keys3 xs ys zs) : entL xs k = (⟨#[]⟩, false) ∧ entL ys k = (⟨#[]⟩, false) ∧ entL zs k = (⟨#[]⟩, false) := by
  rw [keys3_mem] at h
  simp only [not_or] at h
  exact ⟨ent_none h.1, ent_none h.2.1, ent_none h.2.2⟩
theorem ent_merge {xs ys zs : List Pr} (h : mB xs ys zs = []) (k : Str) : entL (mO xs ys zs) k = pickF xs ys zs k := by
  unfold mO
  rw [h, outF_show]
  simp only [List.isEmpty_nil, if_true]
  refine ent_show _ (pick_false xs ys zs) _ _ fun hn => ?_
  obtain ⟨_, e2, e3⟩ := not_keys hn
  unfold pickF
  split
  · exact e3
  · exact e2
theorem bad_mem (xs ys zs : List Pr) (k : Str) : k ∈ mB xs ys zs ↔ badF xs ys zs k = true := by
  unfold mB
  rw [List.mem_filter]
  refine ⟨fun h => h.2, fun h => ⟨?_, h⟩⟩
  refine Classical.byContradiction fun hn => ?_
  obtain ⟨e1, e2, e3⟩ := not_keys hn
  unfold badF at h
  rw [e1, e2, e3, eqE_self] at h
  cases h

/- sides apart -/
theorem filter_big {p : Chg → Bool} {g : Str → Chg} : ∀ (K K0 : List Str), Srt K → Srt K0 → (∀ q ∈ K0, q ∈ K) → (∀ k ∈ K, k ∉ K0 → p (g k) = false) → (K.map g).filter p = (K0.map g).filter p
  | [], [], _, _, _, _ => rfl
  | [], q :: K0, _, _, h, _ => by have := h q List.mem_cons_self; cases this
  | k :: K, [], hK, _, _, hn => by
    rw [List.map_cons, List.filter_cons_of_neg (by rw [hn k List.mem_cons_self (by simp)]; simp)]
    exact filter_big K [] (List.pairwise_cons.1 hK).2 List.Pairwise.nil (by simp) fun x hx => hn x (List.mem_cons_of_mem _ hx)
  | k :: K, q :: K0, hK, h0, h, hn => by
    have hK' := List.pairwise_cons.1 hK
    have h0' := List.pairwise_cons.1 h0
    by_cases hk : q = k
    · subst hk
      have hsub : ∀ x ∈ K0, x ∈ K := fun x hx => (List.mem_cons.1 (h x (List.mem_cons_of_mem _ hx))).resolve_left fun e => by
        have := h0'.1 x hx; rw [e, lt_irrefl] at this; cases this
      have rest : (K.map g).filter p = (K0.map g).filter p := filter_big K K0 hK'.2 h0'.2 hsub fun x hx hx0 => hn x (List.mem_cons_of_mem _ hx) fun hm =>
        (List.mem_cons.1 hm).elim (fun e => by have := hK'.1 x hx; rw [e, lt_irrefl] at this; cases this) hx0
      rw [List.map_cons, List.map_cons, List.filter_cons, List.filter_cons, rest]
    · have hqK : q ∈ K := (List.mem_cons.1 (h q List.mem_cons_self)).resolve_left hk
      have hlt := hK'.1 q hqK
      have hk0 : k ∉ q :: K0 := fun hm => by
        rcases List.mem_cons.1 hm with e | hm
        · exact hk e.symm
        · have := lt_trans hlt (h0'.1 k hm); rw [lt_irrefl] at this; cases this
      rw [List.map_cons, List.filter_cons_of_neg (by rw [hn k List.mem_cons_self hk0]; simp)]
      exact filter_big K (q :: K0) hK'.2 h0 (fun x hx => (List.mem_cons.1 (h x hx)).resolve_left fun e => hk0 (e ▸ hx)) fun x hx => hn x (List.mem_cons_of_mem _ hx)
theorem parts_same (us vs : List Pr) (k : Str) (h : entL us k = entL vs k) : parts (chgOf us vs k) = false := by
  unfold parts chgOf; rw [h]; simp
theorem parts_iff (us vs : List Pr) (k : Str) : parts (chgOf us vs k) = true ↔ entL us k ≠ entL vs k := by
  unfold parts chgOf
  simp only [Bool.or_eq_true, Bool.not_eq_true']
  constructor
  · rintro (h | h) e
    · rw [e] at h; simp at h
    · rw [e] at h; simp at h
  · intro h
    by_cases h1 : ((entL us k).1.toList == (entL vs k).1.toList) = true
    · right
      cases h2 : (entL us k).2 != (entL vs k).2 with
      | true => rfl
      | false => exact absurd (Prod.ext (eq_beq.1 h1) (by simpa using h2)) h
    · left; simpa using h1
theorem keys2_mem (us vs : List Pr) (q : Str) : q ∈ keysL [us, vs] ↔ q ∈ ks us ∨ q ∈ ks vs := by
  rw [(keysL_srt _).2]; simp [ks]
theorem ref_big (us vs : List Pr) (K : List Str) (hK : Srt K) (h : ∀ q, q ∈ ks us ∨ q ∈ ks vs → q ∈ K) : refL us vs = (K.map (chgOf us vs)).filter parts :=
  (filter_big K (keysL [us, vs]) hK (keysL_srt _).1 (fun q hq => h q ((keys2_mem us vs q).1 hq)) fun k _ hn => by
    rw [keys2_mem] at hn; simp only [not_or] at hn
    exact parts_same us vs k (by rw [ent_none hn.1, ent_none hn.2])).symm
/-- two pairs of lists that part alike have the same changes. -/
theorem ref_alike {us vs us' vs' : List Pr} (h : ∀ k, (entL us k = entL us' k ∧ entL vs k = entL vs' k) ∨ (entL us k = entL vs k ∧ entL us' k = entL vs' k)) : refL us vs = refL us' vs' := by
  have hm : ∀ q, q ∈ keysL [us, vs, us', vs'] ↔ q ∈ ks us ∨ q ∈ ks vs ∨ q ∈ ks us' ∨ q ∈ ks vs' := fun q => by rw [(keysL_srt _).2]; simp [ks]
  rw [ref_big us vs (keysL [us, vs, us', vs']) (keysL_srt _).1 fun q hq => (hm q).2 (hq.elim .inl fun h => .inr (.inl h)),
    ref_big us' vs' (keysL [us, vs, us', vs']) (keysL_srt _).1 fun q hq => (hm q).2 (hq.elim (fun h => .inr (.inr (.inl h))) fun h => .inr (.inr (.inr h)))]
  generalize keysL [us, vs, us', vs'] = K
  induction K with
  | nil => rfl
  | cons k K ih =>
    rw [List.map_cons, List.map_cons, List.filter_cons, List.filter_cons, ih]
    rcases h k with ⟨e1, e2⟩ | ⟨e1, e2⟩
    · have : chgOf us vs k = chgOf us' vs' k := by unfold chgOf; rw [e1, e2]
      rw [this]
    · rw [parts_same us vs k e1, parts_same us' vs' k e2]; rfl
theorem ref_mem (us vs : List Pr) (k : Str) : (∃ c ∈ refL us vs, c.k = k) ↔ entL us k ≠ entL vs k := by
  unfold refL
  constructor
  · rintro ⟨c, hc, rfl⟩
    obtain ⟨hm, hp⟩ := List.mem_filter.1 hc
    obtain ⟨q, _, rfl⟩ := List.mem_map.1 hm
    exact (parts_iff us vs q).1 hp
  · intro h
    refine ⟨chgOf us vs k, List.mem_filter.2 ⟨List.mem_map.2 ⟨k, ?_, rfl⟩, (parts_iff us vs k).2 h⟩, rfl⟩
    rw [keys2_mem]
    refine Classical.byContradiction fun hn => ?_
    simp only [not_or] at hn
    exact h (by rw [ent_none hn.1, ent_none hn.2])
theorem apart_law {xs ys zs : List Pr} (h : ∀ c ∈ refL xs ys, ∀ d ∈ refL xs zs, c.k ≠ d.k) : mB xs ys zs = [] ∧ refL ys (mO xs ys zs) = refL xs zs ∧ refL zs (mO xs ys zs) = refL xs ys := by
  have hk : ∀ k, entL ys k = entL xs k ∨ entL zs k = entL xs k := fun k => by
    refine Classical.byContradiction fun hn => ?_
    simp only [not_or] at hn
    obtain ⟨c, hc, rfl⟩ := (ref_mem xs ys k).2 fun e => hn.1 e.symm
    obtain ⟨d, hd, e⟩ := (ref_mem xs zs c.k).2 fun e => hn.2 e.symm
    exact h c hc d hd e.symm
  have hb : mB xs ys zs = [] := List.eq_nil_iff_forall_not_mem.2 fun k hm => by
    have := (bad_mem xs ys zs k).1 hm
    unfold badF at this
    rcases hk k with e | e
    · rw [e, eqE_self] at this; cases this
    · rw [e, eqE_self] at this; simp at this
  refine ⟨hb, ref_alike fun k => ?_, ref_alike fun k => ?_⟩
  · rw [ent_merge hb k]
    unfold pickF
    by_cases hy : eqE (entL ys k) (entL xs k) = true
    · rw [if_pos hy]; exact .inl ⟨eqE_iff.1 hy, rfl⟩
    · rw [if_neg hy]
      exact .inr ⟨rfl, ((hk k).resolve_left fun e => hy (eqE_iff.2 e)).symm⟩
  · rw [ent_merge hb k]
    unfold pickF
    by_cases hy : eqE (entL ys k) (entL xs k) = true
    · rw [if_pos hy]; exact .inr ⟨rfl, (eqE_iff.1 hy).symm⟩
    · rw [if_neg hy]
      exact .inl ⟨(hk k).resolve_left fun e => hy (eqE_iff.2 e), rfl⟩
end Go.Proofs.Ytepnckpaknabpaa
