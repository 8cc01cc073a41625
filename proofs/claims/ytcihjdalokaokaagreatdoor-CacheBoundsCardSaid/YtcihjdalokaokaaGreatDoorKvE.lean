/-
  The last keys asked, plainly; the machine's own blocks stay too. Conditions: none.
-/
import Derived.Test.YtcihjdalokaokaaGreatDoorKvD
import Derived.Test.YtcihjdalokaokaaGreatDoorVcE
import Derived.Test.YtcihjdalokaokaaGreatDoorVcR
set_option linter.unusedVariables false
set_option linter.unusedSimpArgs false
namespace Go.Kv
open Go Go.Vc Go.Dk

/-- the machine's own blocks stay too. -/
theorem hc_stay {P : Program} {f : FuncId} {args : Array Value} {h : Heap} {Q : Value → Heap → Prop} (hc : HC P f args h fun v h' => Turn h h' ∧ Q v h') : HC P f args h fun v h' => Keep h.size h h' ∧ Q v h' := by
  refine ⟨fun w hw => (hc.run w hw).mono ?_⟩
  rintro e w' ⟨v, rfl, hs, t, q⟩
  refine ⟨v, rfl, hs, ⟨t.size, fun b hb => ?_⟩, q⟩
  subst hw
  have hb' : w.heap[b]? = some (w.heap[b]'hb) := Array.getElem?_eq_getElem hb
  cases hm : isMark (w.heap[b]'hb) with
  | true => rw [hb']; exact hs.marks b _ hb' hm
  | false => rw [hb']; exact t.stay b _ hb' hm
/-- the last keys, one more asked. -/
def lnext (most : Nat) (l : List Str) (k : Str) : List Str :=
  let r := l.filter (fun o => decide (o ≠ k)) ++ [k]
  r.drop (r.length - most)
theorem ekeys_cut (k : Str) : ∀ E : List En, ekeys (ecut k E) = (ekeys E).filter fun o => decide (o ≠ k)
  | [] => rfl
  | e :: E => by
    have ih := ekeys_cut k E
    unfold ecut ekeys at ih ⊢
    rw [List.map_cons, List.filter_cons, List.filter_cons]
    split
    · rename_i h1
      rw [List.map_cons, ih]
    · rename_i h1
      exact ih
theorem efind_iff (k : Str) (E : List En) : (efind k E).isSome = true ↔ k ∈ ekeys E := by
  unfold efind
  rw [List.find?_isSome]
  constructor
  · rintro ⟨e, he, hk⟩
    exact List.mem_map.2 ⟨e, he, of_decide_eq_true hk⟩
  · intro h
    obtain ⟨e, he, hk⟩ := List.mem_map.1 h
    exact ⟨e, he, decide_eq_true hk⟩
theorem ekeys_keep {most : Nat} {E : List En} {k v : Str} {is : Bool} (hl : E.length ≤ most) (hm : 1 ≤ most) : ekeys (ekeep most E k v is) = lnext most (ekeys E) k := by
  have hlen := ekeep_len (k := k) (v := v) (is := is) hl
  have hkl : (ekeys (ekeep most E k v is)).length = (ekeep most E k v is).length := List.length_map _
  unfold lnext
  dsimp only
  unfold ekeep at hlen hkl ⊢
  split at hlen
  · rename_i hf
    rw [if_pos hf] at hkl ⊢
    have e1 : ekeys (ecut k E ++ [⟨k, v, is⟩]) = (ekeys E).filter (fun o => decide (o ≠ k)) ++ [k] := by
      show ((ecut k E ++ [(⟨k, v, is⟩ : En)]).map (·.key)) = _
      rw [List.map_append]
      exact congrArg (· ++ [k]) (ekeys_cut k E)
    rw [e1] at hkl ⊢
    rw [show ((ekeys E).filter (fun o => decide (o ≠ k)) ++ [k]).length - most = 0 by omega]; rfl
  · rename_i hf
    rw [if_neg hf, if_neg (by omega)] at hkl ⊢
    have hno : k ∉ ekeys E := fun h => hf ((efind_iff k E).2 h)
    have hfil : (ekeys E).filter (fun o => decide (o ≠ k)) = ekeys E := List.filter_eq_self.2 fun x hx => decide_eq_true fun e => hno (e ▸ hx)
    rw [hfil, List.length_append, List.length_map, List.length_singleton]
    split
    · rename_i he
      rw [he, Nat.add_sub_cancel_left]
      cases E with
      | nil => rw [List.length_nil] at he; omega
      | cons e E =>
        show ((E ++ [(⟨k, v, is⟩ : En)]).map (·.key)) = E.map (·.key) ++ [k]
        rw [List.map_append]; rfl
    · rename_i he
      rw [show E.length + 1 - most = 0 by omega]
      show ((E ++ [(⟨k, v, is⟩ : En)]).map (·.key)) = _
      rw [List.map_append]; rfl
theorem ekeys_hit {most : Nat} {E : List En} {k v : Str} {is : Bool} (hn : (ekeys E).Nodup) (hk : k ∈ ekeys E) : (ekeys (ekeep most E k v is)).Perm (ekeys E) := by
  unfold ekeep
  rw [if_pos ((efind_iff k E).2 hk)]
  have e1 : ekeys (ecut k E ++ [⟨k, v, is⟩]) = (ekeys E).filter (fun o => decide (o ≠ k)) ++ [k] := by
    show ((ecut k E ++ [(⟨k, v, is⟩ : En)]).map (·.key)) = _
    rw [List.map_append]
    exact congrArg (· ++ [k]) (ekeys_cut k E)
  rw [e1]
  refine (List.perm_append_singleton k _).trans ?_
  refine (List.perm_ext_iff_of_nodup (List.nodup_cons.2 ⟨fun h => ?_, hn.filter _⟩) hn).2 fun x => ?_
  · exact of_decide_eq_true (List.mem_filter.1 h).2 rfl
  · constructor
    · intro h
      rcases List.mem_cons.1 h with rfl | h
      · exact hk
      · exact (List.mem_filter.1 h).1
    · intro h
      by_cases hx : x = k
      · rw [hx]; exact List.mem_cons_self
      · exact List.mem_cons_of_mem _ (List.mem_filter.2 ⟨h, decide_eq_true hx⟩)
theorem ekeep_nil {most : Nat} (hm : most ≠ 0) (k v : Str) (is : Bool) : ekeep most [] k v is = [⟨k, v, is⟩] := by
  unfold ekeep
  rw [show efind k [] = none from rfl, if_neg (by decide), if_neg hm]
  split <;> rfl
theorem ekeep_one {k v k' v' : Str} {is is' : Bool} : ekeep 1 [⟨k, v, is⟩] k' v' is' = [⟨k', v', is'⟩] := by
  by_cases h : k = k'
  · subst h; simp [ekeep, efind, ecut]
  · simp [ekeep, efind, ecut, h]
theorem efind_one {k v k' : Str} {is : Bool} : (efind k' [⟨k, v, is⟩]).isSome = decide (k = k') := by
  by_cases h : k = k'
  · subst h; simp [efind]
  · simp [efind, h]
end Go.Kv
