/-
  The disk's reference, plainly: putting a file into files by rising names, in one walk; how many files there are. Conditions: none.
-/
import Derived.Test.YtembbemljejjbaaDkB
set_option linter.unusedSimpArgs false
set_option linter.unusedVariables false
namespace Go.Dk
open Go Go.Vc

section
variable {α : Type} (nm : α → Str)
/-- files behind here, of which one is this. -/
def goP (x : α) : Bool → List α → List α
  | d, [] => if d then [] else [x]
  | d, f :: F => (if !d && !lt (nm f) (nm x) then [x] else []) ++ ((if decide (nm f = nm x) then [] else [f]) ++ goP x (d || !lt (nm f) (nm x)) F)
end
theorem goP_map {α β : Type} (nm : α → Str) (nb : β → Str) (g : α → β) (hg : ∀ a, nb (g a) = nm a) (x : α) : ∀ (F : List α) (d : Bool), (goP nm x d F).map g = goP nb (g x) d (F.map g)
  | [], d => by cases d <;> simp [goP]
  | f :: F, d => by
    simp only [goP, List.map_cons, List.map_append, hg, goP_map nm nb g hg x F]
    congr 1
    · split <;> simp
    · congr 1; split <;> simp
theorem goP_true (x : Str × List Str) : ∀ F : Fs, goP (·.1) x true F = del x.1 F
  | [] => rfl
  | f :: F => by
    have ih : goP (·.1) x true F = F.filter fun p => !decide (p.1 = x.1) := by rw [goP_true x F]; unfold del; congr 1; funext p; simp
    unfold goP del
    rw [List.filter_cons]
    by_cases h : f.1 = x.1 <;> simp [h, ih]
theorem del_above {n : Str} : ∀ {F : Fs}, (∀ q ∈ names F, lt n q = true) → del n F = F
  | [], _ => rfl
  | f :: F, h => by
    have h1 : n ≠ f.1 := ne_of_lt (h f.1 (by simp [mKeys]))
    have h2 : f.1 ≠ n := fun e => h1 e.symm
    have h3 := del_above (F := F) (n := n) fun q hq => h q (by simp only [mKeys, List.map_cons, List.mem_cons] at hq ⊢; exact .inr hq)
    simp only [del, List.filter_cons, ne_eq, h2, not_false_eq_true, decide_true, if_true] at h3 ⊢
    rw [h3]
theorem goP_put (x : Str × List Str) : ∀ {F : Fs}, SrtF F → goP (·.1) x false F = put x.1 x.2 F
  | [], _ => rfl
  | f :: F, h => by
    have hp := List.pairwise_cons.1 h
    have hn : ∀ q ∈ names F, lt f.1 q = true := hp.1
    have ht := goP_true x F
    have ih := goP_put x (F := F) hp.2
    unfold goP put
    by_cases h1 : f.1 = x.1
    · have hd : del x.1 F = F := del_above fun q hq => by rw [← h1]; exact hn q hq
      have hl : lt f.1 x.1 = false := by rw [h1]; exact lt_irrefl _
      rw [hl, if_pos h1, if_pos (show (!false && !false) = true from rfl), if_pos (by rw [h1]; exact decide_eq_true rfl), show (false || !false) = true from rfl, ht, hd]
      rfl
    · cases h2 : lt f.1 x.1 with
      | true =>
        have h3 : lt x.1 f.1 = false := lt_asymm h2
        rw [if_neg (by decide : ¬ (!false && !true) = true), if_neg (by simpa using h1), show (false || !true) = false from rfl, ih, if_neg h1, if_neg (by rw [h3]; decide)]
        rfl
      | false =>
        have h3 : lt x.1 f.1 = true := by
          cases h4 : lt x.1 f.1 with
          | true => rfl
          | false => exact absurd (lt_total h2 h4) h1
        have hd : del x.1 F = F := del_above fun q hq => lt_trans h3 (hn q hq)
        rw [if_pos (show (!false && !false) = true from rfl), if_neg (by simpa using h1), show (false || !false) = true from rfl, ht, hd, if_neg h1, if_pos h3]
        rfl

/- ------------------------------------------------------------------ how many files -/

/-- so many files at most, of which the safe ones are some. -/
structure Few (k : Nat) (x : D) : Prop where
  num : x.now.length ≤ k
  sub : ∀ n, n ∈ names x.safe → n ∈ names x.now
  wts : x.waits.length ≤ k
  siz : ∀ n, n ∈ names x.now → n.size ≤ 9223372036854775807
theorem len_names (F : Fs) : (names F).length = F.length := by simp [mKeys]
theorem len_sub : ∀ {a b : List Str}, a.Nodup → (∀ n, n ∈ a → n ∈ b) → a.length ≤ b.length
  | [], b, _, _ => Nat.zero_le _
  | n :: a, b, hn, hs => by
    have h1 := List.nodup_cons.1 hn
    have h2 : n ∈ b := hs n List.mem_cons_self
    have := len_sub (a := a) (b := b.filter fun q => decide (q ≠ n)) h1.2 fun q hq => List.mem_filter.2 ⟨hs q (List.mem_cons_of_mem _ hq), decide_eq_true fun e => h1.1 (e ▸ hq)⟩
    have h3 : (b.filter fun q => decide (q ≠ n)).length < b.length := List.length_filter_lt_length_iff_exists.2 ⟨n, h2, by simp⟩
    simp only [List.length_cons]; omega
theorem len_fs {F G : Fs} (hF : SrtF F) (hs : ∀ n, n ∈ names F → n ∈ names G) : F.length ≤ G.length := by
  have := len_sub (srt_nodup hF) hs
  rwa [len_names, len_names] at this
theorem Few.safe {k : Nat} {x : D} (h : Few k x) (ok : Ok x) : x.safe.length ≤ k := Nat.le_trans (len_fs ok.safe h.sub) h.num
theorem len_put (n : Str) (l : List Str) : ∀ F : Fs, (put n l F).length ≤ F.length + 1
  | [] => by simp [put]
  | p :: F => by
    unfold put
    split
    · simp
    · split
      · simp
      · have := len_put n l F; simp; omega
theorem len_put_mem {n : Str} (l : List Str) {F : Fs} (hF : SrtF F) (hn : n ∈ names F) : (put n l F).length ≤ F.length :=
  len_fs (srt_put hF n l) fun q hq => by rcases (names_put n l F q).1 hq with rfl | h <;> assumption
theorem len_del (n : Str) (F : Fs) : (del n F).length ≤ F.length := List.length_filter_le _ _
theorem mem_of_get {F : Fs} {n : Str} {l : List Str} (h : mGet F n = some l) : n ∈ names F := by
  by_cases hn : n ∈ names F
  · exact hn
  · rw [mGet_none.2 hn] at h; cases h
theorem mem_of_pgs {F : Fs} {n : Str} (h : 0 < (pgs F n).length) : n ∈ names F := by
  unfold pgs at h
  cases e : mGet F n with
  | none => rw [e] at h; simp at h
  | some l => exact mem_of_get e
theorem wt_mem {x : D} (ok : Ok x) {w : Wt} (hw : w ∈ x.waits) : w.n ∈ names x.now := mem_of_pgs (by have := (ok.waits w hw).1; omega)
theorem keepW_names {N : List Str} (keep : Int) : ∀ (ws : List Wt) (i : Nat) (F : Fs), (∀ n, n ∈ names F → n ∈ N) → (∀ w ∈ ws, w.n ∈ N) → ∀ n, n ∈ names (keepW keep i ws F) → n ∈ N
  | [], i, F, hF, _, n, hn => hF n hn
  | w :: ws, i, F, hF, hw, n, hn => by
    refine keepW_names keep ws (i + 1) _ (fun q hq => ?_) (fun v hv => hw v (List.mem_cons_of_mem _ hv)) n hn
    split at hq
    · rcases (names_put _ _ _ _).1 hq with rfl | h
      · exact hw w List.mem_cons_self
      · exact hF q h
    · exact hF q hq
theorem addN_names {N : List Str} : ∀ (l : List Str) (F : Fs), (∀ n, n ∈ names F → n ∈ N) → (∀ n ∈ l, n ∈ N) → ∀ n, n ∈ names (l.foldl addN F) → n ∈ N
  | [], F, hF, _, n, hn => hF n hn
  | a :: l, F, hF, hl, n, hn => by
    refine addN_names l (addN F a) (fun q hq => ?_) (fun v hv => hl v (List.mem_cons_of_mem _ hv)) n hn
    unfold addN at hq
    split at hq
    · exact hF q hq
    · rcases (names_put _ _ _ _).1 hq with rfl | h
      · exact hl _ List.mem_cons_self
      · exact hF q h
theorem keepW_srt (keep : Int) : ∀ (ws : List Wt) (i : Nat) (F : Fs), SrtF F → SrtF (keepW keep i ws F)
  | [], i, F, hF => hF
  | w :: ws, i, F, hF => keepW_srt keep ws (i + 1) _ (by split; exact srt_put hF _ _; exact hF)
theorem offS_srt (keep : Int) {x : D} (ok : Ok x) : SrtF (offS keep x) := srt_addAll _ (keepW_srt _ _ _ _ ok.safe)
theorem Few.mono {k l : Nat} {x : D} (h : Few k x) (hl : k ≤ l) : Few l x := ⟨Nat.le_trans h.num hl, h.sub, Nat.le_trans h.wts hl, h.siz⟩
theorem few_off {k : Nat} {keep : Int} {x : D} (h : Few k x) (ok : Ok x) : Few k (off keep x) := by
  unfold off
  split
  · exact h
  · have hs : ∀ n, n ∈ names (offS keep x) → n ∈ names x.now := addN_names _ _ (keepW_names keep _ _ _ h.sub fun w hw => wt_mem ok hw) fun n hn => hn
    exact ⟨Nat.le_trans (len_fs (offS_srt keep ok) hs) h.num, fun n hn => hn, Nat.zero_le _, fun n hn => h.siz n (hs n hn)⟩
theorem few_act {k : Nat} {x : D} (h : Few k x) : Few k (act x) := ⟨h.num, h.sub, h.wts, h.siz⟩
theorem few_on {k : Nat} {x : D} (h : Few k x) : Few k (on x) := ⟨h.num, h.sub, h.wts, h.siz⟩
theorem few_arm {k : Nat} {x : D} (n keep : Int) (h : Few k x) : Few k (arm x n keep) := ⟨h.num, h.sub, h.wts, h.siz⟩
theorem few_new (room : Int) : Few 0 (new room) := ⟨Nat.le_refl _, fun n hn => (by cases hn), Nat.le_refl _, fun n hn => (by cases hn)⟩
theorem few_ended {k : Nat} {x : D} (h : Few k x) (ok : Ok x) : Few k (ended x).2 := by
  unfold ended; split
  · exact few_off (few_act h) (ok_act ok)
  · exact few_act h
theorem few_may {k : Nat} {x : D} (h : Few k x) (ok : Ok x) (n : Str) : Few k (may x n).2 := by
  unfold may; split
  · exact h
  · split
    · exact h
    · exact few_ended h ok
theorem may_zero {x : D} {n : Str} (h : (may x n).1 = 0) : (may x n).2 = act x ∧ n ∈ names x.now := by
  unfold may at h ⊢
  split at h
  · cases h
  · rename_i hd
    rw [if_neg hd]
    cases e : mGet x.now n with
    | none => rw [e] at h; cases h
    | some l =>
      simp only [e] at h ⊢
      unfold ended at h ⊢
      cases hg : goes x with
      | true => rw [hg] at h; cases h
      | false => exact ⟨by simp, mem_of_get e⟩
theorem few_write {k : Nat} {x : D} (h : Few k x) (ok : Ok x) {s : Str} (hs : s.size ≤ 9223372036854775807) (i : Int) (b : Str) : Few (k + 1) (write x s i b).2 := by
  unfold write
  split
  · exact h.mono (Nat.le_succ _)
  · split
    · exact h.mono (Nat.le_succ _)
    · rename_i hb
      split
      · exact h.mono (Nat.le_succ _)
      · rename_i hi
        split
        · exact h.mono (Nat.le_succ _)
        · rename_i hf
          have h1 : Few (k + 1) { act x with now := put s (setP (pgs x.now s) i.toNat (pad b)) x.now, waits := x.waits ++ [⟨s, i.toNat, pad b⟩] } := by
            refine ⟨Nat.le_trans (len_put _ _ _) (Nat.succ_le_succ h.num), fun n hn => (names_put _ _ _ _).2 (.inr (h.sub n hn)), ?_, fun n hn => ((names_put _ _ _ _).1 hn).elim (fun e => e ▸ hs) (h.siz n)⟩
            have := h.wts
            simp only [List.length_append, List.length_cons, List.length_nil]; omega
          have hok := ok_write ok (s := s) (b := b) (k := i.toNat) (by omega) (by omega) (fun e => by
            have : ¬ (i = ((pgs x.now s).length : Int) ∧ free x < 1) := hf
            have h2 : ¬ free x < 1 := fun h3 => this ⟨by omega, h3⟩
            omega)
          dsimp only
          split
          · exact few_off h1 hok
          · exact h1
theorem few_sync {k : Nat} {x : D} (h : Few k x) (ok : Ok x) (s : Str) : Few (k + 1) (sync x s).2 := by
  have hm := may_zero (x := x) (n := s)
  have hf := few_may h ok s
  unfold sync
  generalize may x s = r at hm hf ⊢
  obtain ⟨e, d1⟩ := r
  dsimp only at hm hf ⊢
  split
  · rename_i e0
    obtain ⟨rfl, hn⟩ := hm e0
    refine ⟨Nat.le_trans h.num (Nat.le_succ _), fun n hn' => ?_, Nat.le_trans (Nat.le_trans (List.length_filter_le _ _) h.wts) (Nat.le_succ _), h.siz⟩
    rcases (names_put _ _ _ _).1 hn' with rfl | h1
    · exact hn
    · exact h.sub n h1
  · exact hf.mono (Nat.le_succ _)
theorem few_cut {k : Nat} {x : D} (h : Few k x) (ok : Ok x) (s : Str) (n : Int) : Few (k + 1) (cut x s n).2 := by
  have hm := may_zero (x := x) (n := s)
  have hf := few_may h ok s
  unfold cut
  split
  · exact h.mono (Nat.le_succ _)
  · generalize may x s = r at hm hf ⊢
    obtain ⟨e, d1⟩ := r
    dsimp only at hm hf ⊢
    split
    · rename_i e0
      obtain ⟨rfl, hn⟩ := hm e0
      refine ⟨Nat.le_trans (len_put _ _ _) (Nat.succ_le_succ h.num), fun q hq => ?_, Nat.le_trans (Nat.le_trans (List.length_filter_le _ _) h.wts) (Nat.le_succ _), fun q hq => ((names_put _ _ _ _).1 hq).elim (fun e => e ▸ h.siz s hn) (h.siz q)⟩
      rcases (names_put _ _ _ _).1 hq with rfl | h1
      · exact (names_put _ _ _ _).2 (.inl rfl)
      · exact (names_put _ _ _ _).2 (.inr (h.sub q h1))
    · exact hf.mono (Nat.le_succ _)
theorem few_rename {k : Nat} {x : D} (h : Few k x) (ok : Ok x) (a : Str) {b : Str} (hb : b.size ≤ 9223372036854775807) : Few (k + 1) (rename x a b).2 := by
  have hm := may_zero (x := x) (n := a)
  have hf := few_may h ok a
  unfold rename
  generalize may x a = r at hm hf ⊢
  obtain ⟨e, d1⟩ := r
  dsimp only at hm hf ⊢
  split
  · rename_i e0
    obtain ⟨rfl, hn⟩ := hm e0.1
    refine ⟨Nat.le_trans (len_put _ _ _) (Nat.succ_le_succ (Nat.le_trans (len_del _ _) h.num)), fun q hq => ?_, ?_, fun q hq => ((names_put _ _ _ _).1 hq).elim (fun e => e ▸ hb) fun h1 => h.siz q ((names_del _ _ _).1 h1).2⟩
    · rcases (names_put _ _ _ _).1 hq with rfl | h1
      · exact (names_put _ _ _ _).2 (.inl rfl)
      · have h2 := (names_del _ _ _).1 h1
        exact (names_put _ _ _ _).2 (.inr ((names_del _ _ _).2 ⟨h2.1, h.sub q h2.2⟩))
    · have h3 : (drop x.waits b 0).length ≤ x.waits.length := List.length_filter_le _ _
      have h4 := h.wts
      show ((drop x.waits b 0).map (turnW a b)).length ≤ k + 1
      rw [List.length_map]; omega
  · exact hf.mono (Nat.le_succ _)
theorem few_remove {k : Nat} {x : D} (h : Few k x) (ok : Ok x) (s : Str) : Few (k + 1) (remove x s).2 := by
  have hm := may_zero (x := x) (n := s)
  have hf := few_may h ok s
  unfold remove
  generalize may x s = r at hm hf ⊢
  obtain ⟨e, d1⟩ := r
  dsimp only at hm hf ⊢
  split
  · rename_i e0
    obtain ⟨rfl, hn⟩ := hm e0
    refine ⟨Nat.le_trans (len_del _ _) (Nat.le_trans h.num (Nat.le_succ _)), fun q hq => ?_, Nat.le_trans (Nat.le_trans (List.length_filter_le _ _) h.wts) (Nat.le_succ _), fun q hq => h.siz q ((names_del _ _ _).1 hq).2⟩
    have h2 := (names_del _ _ _).1 hq
    exact (names_del _ _ _).2 ⟨h2.1, h.sub q h2.2⟩
  · exact hf.mono (Nat.le_succ _)
end Go.Dk
