/-
  What a cache remembers is so: entries, writes, and the pairs they came of. Conditions: none.
-/
import Derived.Test.YtcihjdalokaokaaGreatDoorKvA
import Derived.Test.YtcihjdalokaokaaGreatDoorKvC
set_option linter.unusedVariables false
namespace Go.Kv
open Go Go.Vc Go.Dk

/-- what is remembered is so. -/
def GoodE (P : Ps Str) (e : En) : Prop := e.is = (mGet P e.key).isSome ∧ e.val = (mGet P e.key).getD ⟨#[]⟩
/-- a write is remembered. -/
def eput (most : Nat) (E : List En) (w : Wr) : List En := ekeep most E w.key (if w.gone then ⟨#[]⟩ else w.val) (!w.gone)
theorem efind_mem {k : Str} {E : List En} {e : En} (h : efind k E = some e) : e ∈ E ∧ e.key = k :=
  ⟨List.mem_of_find?_eq_some h, by unfold efind at h; have := List.find?_some h; exact of_decide_eq_true this⟩
theorem efind_no {k : Str} {E : List En} (h : (efind k E).isSome = false) : ∀ e ∈ E, e.key ≠ k := fun e he hk => by
  have h0 : efind k E = none := by cases hf : efind k E with
    | none => rfl
    | some x => rw [hf] at h; cases h
  exact List.find?_eq_none.1 h0 e he (decide_eq_true hk)
theorem ekeep_mem {most : Nat} {E : List En} {k v : Str} {is : Bool} {e : En} (h : e ∈ ekeep most E k v is) : e = ⟨k, v, is⟩ ∨ (e ∈ E ∧ (e.key ≠ k ∨ most = 0)) := by
  unfold ekeep at h
  split at h
  · rcases List.mem_append.1 h with h | h
    · obtain ⟨h1, h2⟩ := List.mem_filter.1 h
      exact .inr ⟨h1, .inl (of_decide_eq_true h2)⟩
    · exact .inl (List.mem_singleton.1 h)
  · rename_i hf
    have hno := efind_no (by simpa using hf)
    split at h
    · rename_i h0; exact .inr ⟨h, .inr h0⟩
    · rcases List.mem_append.1 h with h | h
      · have hE : e ∈ E := by
          split at h
          · exact List.mem_of_mem_tail h
          · exact h
        exact .inr ⟨hE, .inl (hno e hE)⟩
      · exact .inl (List.mem_singleton.1 h)
theorem ekeep_len {most : Nat} {E : List En} {k v : Str} {is : Bool} (h : E.length ≤ most) : (ekeep most E k v is).length ≤ most := by
  unfold ekeep
  split
  · rename_i hf
    obtain ⟨e, he⟩ := Option.isSome_iff_exists.1 hf
    obtain ⟨hm, hk⟩ := efind_mem he
    have : (ecut k E).length < E.length := by
      unfold ecut
      have h1 := List.length_filter_le (fun e => decide (e.key ≠ k)) E
      rcases Nat.lt_or_ge (E.filter fun e => decide (e.key ≠ k)).length E.length with h2 | h2
      · exact h2
      · have h3 := List.length_filter_eq_length_iff.1 (Nat.le_antisymm h1 h2) e hm
        simp [hk] at h3
    rw [List.length_append, List.length_singleton]; omega
  · split
    · exact h
    · split
      · rw [List.length_append, List.length_tail, List.length_singleton]; omega
      · rw [List.length_append, List.length_singleton]; omega
theorem good_get {P : Ps Str} {most : Nat} {E : List En} (hE : ∀ e ∈ E, GoodE P e) (k : Str) : ∀ e ∈ ekeep most E k ((mGet P k).getD ⟨#[]⟩) (mGet P k).isSome, GoodE P e := fun e he => by
  rcases ekeep_mem he with rfl | ⟨h, _⟩
  · exact ⟨rfl, rfl⟩
  · exact hE e h
theorem good_put {P : Ps Str} (hs : SrtP P) {most : Nat} {E : List En} (hl : E.length ≤ most) (hE : ∀ e ∈ E, GoodE P e) (w : Wr) : ∀ e ∈ eput most E w, GoodE (done1 P w) e := fun e he => by
  unfold GoodE
  rw [get_done1 hs]
  rcases ekeep_mem he with rfl | ⟨h, h2⟩
  · dsimp only
    rw [if_pos rfl]
    cases w.gone <;> exact ⟨rfl, rfl⟩
  · have hne : e.key ≠ w.key := by
      rcases h2 with h2 | h2
      · exact h2
      · subst h2
        have : E = [] := List.eq_nil_of_length_eq_zero (by omega)
        rw [this] at h; cases h
    rw [if_neg hne]
    exact hE e h
theorem eput_len {most : Nat} {E : List En} (h : E.length ≤ most) (w : Wr) : (eput most E w).length ≤ most := ekeep_len h
theorem eputs_len {most : Nat} : ∀ (l : List Wr) {E : List En}, E.length ≤ most → (l.foldl (eput most) E).length ≤ most
  | [], _, h => h
  | w :: l, _, h => eputs_len l (eput_len h w)
theorem good_puts {most : Nat} : ∀ (l : List Wr) {P : Ps Str} {E : List En}, SrtP P → E.length ≤ most → (∀ e ∈ E, GoodE P e) → ∀ e ∈ l.foldl (eput most) E, GoodE (doneAll P l) e
  | [], _, _, _, _, h => h
  | w :: l, _, _, hs, hl, h => good_puts l (srt_done1 hs w) (eput_len hl w) (good_put hs hl h w)
end Go.Kv
