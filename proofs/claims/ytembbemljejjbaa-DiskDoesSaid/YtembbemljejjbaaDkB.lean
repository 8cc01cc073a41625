/-
  The disk, plainly: what a loss of power leaves. Conditions: none.
-/
import Derived.Test.YtembbemljejjbaaDkA
import Derived.Laws.Bits64b
set_option linter.unusedSimpArgs false
set_option linter.unusedVariables false
namespace Go.Dk
open Go Go.Vc

theorem setP_len (l : List Str) (i : Nat) (p : Str) : (setP l i p).length = max l.length (i + 1) := by simp [setP]; omega
theorem setP_mem {l : List Str} {i : Nat} {p q : Str} (h : q ∈ setP l i p) : q = p ∨ q = zp ∨ q ∈ l := by
  unfold setP at h
  rcases List.mem_or_eq_of_mem_set h with h | h
  · rcases List.mem_append.1 h with h | h
    · exact .inr (.inr h)
    · exact .inr (.inl (List.mem_replicate.1 h).2)
  · exact .inl h
theorem zp_size : zp.size = 512 := by show (Array.replicate 512 (0 : UInt8)).size = 512; simp
theorem pad_size {b : Str} (h : b.size ≤ 512) : (pad b).size = 512 := by
  show (b.data ++ Array.replicate (512 - b.size) (0 : UInt8)).size = 512
  have : b.data.size = b.size := rfl
  simp; omega
theorem pgs_put {F : Fs} (h : SrtF F) (n : Str) (l : List Str) (q : Str) : pgs (put n l F) q = if q = n then l else pgs F q := by
  unfold pgs; rw [get_put h]; split <;> rfl
theorem pgs_del (F : Fs) (n q : Str) : pgs (del n F) q = if q = n then [] else pgs F q := by
  unfold pgs; rw [get_del]; split <;> rfl

/- ------------------------------------------------------------------ which writes are kept -/

theorem keepW_take (keep : Int) : ∀ (ws : List Wt) (i k : Nat) (F : Fs) (w : Wt), ws[k]? = some w →
    keepW keep i (ws.take (k + 1)) F = if kept keep (i + k) then app1 (keepW keep i (ws.take k) F) w else keepW keep i (ws.take k) F
  | [], i, k, F, w, h => by simp at h
  | a :: ws, i, 0, F, w, h => by simp at h; subst h; simp [keepW]
  | a :: ws, i, k + 1, F, w, h => by
    have := keepW_take keep ws (i + 1) k (if kept keep i then app1 F a else F) w (by simpa using h)
    rw [show i + (k + 1) = i + 1 + k by omega]
    simpa [keepW] using this

theorem kept_eq {keep : Int} (hk : 0 ≤ keep ∧ keep < 18446744073709551616) (k : Nat) :
    (IntKind.u64.wrap (((BitVec.ofInt 64 (keep.fdiv ((2 : Int) ^ min ((k : Int).tmod 64).toNat 64)) &&& BitVec.ofInt 64 1).toNat : Nat) : Int) == (1 : Int)) = kept keep k := by
  obtain ⟨n, rfl⟩ := Int.eq_ofNat_of_zero_le hk.1
  have e1 : (((k : Int).tmod 64).toNat) = k % 64 := by rw [Int.tmod_eq_emod_of_nonneg (by omega)]; omega
  have e2 : min (k % 64) 64 = k % 64 := by omega
  have e3 : ((n : Int).fdiv ((2 : Int) ^ (k % 64))) = ((n >>> (k % 64) : Nat) : Int) := by
    rw [Nat.shiftRight_eq_div_pow, Int.fdiv_eq_ediv_of_nonneg _ (Int.le_of_lt (Int.pow_pos (by decide)))]
    simp
  rw [e1, e2, e3]
  have hlt : n >>> (k % 64) < 18446744073709551616 := by
    have : n >>> (k % 64) ≤ n := by rw [Nat.shiftRight_eq_div_pow]; exact Nat.div_le_self _ _
    omega
  have := bits_and_u64_nat (n >>> (k % 64)) 1 hlt (by omega)
  have hb : IntKind.u64.wrap (((BitVec.ofInt 64 ((n >>> (k % 64) : Nat) : Int) &&& BitVec.ofInt 64 1).toNat : Nat) : Int) = ((n >>> (k % 64) &&& 1 : Nat) : Int) := this
  rw [hb, Nat.and_one_is_mod]
  unfold kept
  simp only [Int.toNat_natCast]
  generalize n >>> (k % 64) % 2 = m
  by_cases h : m = 1
  · subst h; rfl
  · rw [beq_eq_false_iff_ne.2 (by omega), beq_eq_false_iff_ne.2 (by omega)]

/- ------------------------------------------------------------------ names that are there -/

theorem get_addN (F : Fs) (h : SrtF F) (n q : Str) : mGet (addN F n) q = match mGet F q with | some l => some l | none => if q = n then some [] else none := by
  unfold addN
  cases hn : mGet F n with
  | some l =>
    cases hq : mGet F q with
    | some l' => simp [hq]
    | none =>
      have : q ≠ n := fun e => by subst e; rw [hn] at hq; cases hq
      simp [hq, this]
  | none =>
    rw [get_put h]
    by_cases e : q = n
    · subst e; simp [hn]
    · rw [if_neg e]; cases mGet F q <;> simp [e]
theorem addN_none {F : Fs} {n : Str} (h : mGet F n = none) : addN F n = put n [] F := by unfold addN; rw [h]
theorem addN_some {F : Fs} {n : Str} (h : (mGet F n).isSome = true) : addN F n = F := by unfold addN; cases hg : mGet F n with | some _ => rfl | none => rw [hg] at h; cases h
theorem srt_addN {F : Fs} (h : SrtF F) (n : Str) : SrtF (addN F n) := by
  unfold addN; cases mGet F n with | some _ => exact h | none => exact srt_put h _ _
theorem srt_addAll : ∀ (l : List Str) {F : Fs}, SrtF F → SrtF (l.foldl addN F)
  | [], _, h => h
  | n :: l, _, h => srt_addAll l (srt_addN h n)
open Classical in
theorem get_addAll : ∀ (l : List Str) (F : Fs), SrtF F → ∀ q, mGet (l.foldl addN F) q = match mGet F q with | some x => some x | none => if q ∈ l then some [] else none
  | [], F, _, q => by cases h : mGet F q <;> simp [h]
  | n :: l, F, h, q => by
    rw [List.foldl_cons, get_addAll l _ (srt_addN h n), get_addN F h]
    cases hq : mGet F q with
    | some x => rfl
    | none =>
      by_cases e : q = n
      · subst e; simp
      · simp [e]
theorem addAll_ext {l m : List Str} {F : Fs} (h : SrtF F) (hm : ∀ q, q ∈ l ↔ q ∈ m) : l.foldl addN F = m.foldl addN F :=
  fs_ext (srt_addAll l h) (srt_addAll m h) fun q => by
    rw [get_addAll l F h, get_addAll m F h]
    cases mGet F q with
    | some x => rfl
    | none =>
      by_cases h1 : q ∈ m
      · rw [if_pos h1, if_pos ((hm q).2 h1)]
      · rw [if_neg h1, if_neg fun h2 => h1 ((hm q).1 h2)]
theorem pgs_addN (F : Fs) (h : SrtF F) (n q : Str) : pgs (addN F n) q = pgs F q := by
  unfold pgs; rw [get_addN F h]; cases mGet F q with | some _ => rfl | none => dsimp only; split <;> rfl
theorem pgs_addAll : ∀ (l : List Str) (F : Fs), SrtF F → ∀ q, pgs (l.foldl addN F) q = pgs F q
  | [], _, _, _ => rfl
  | n :: l, F, h, q => by rw [List.foldl_cons, pgs_addAll l _ (srt_addN h n), pgs_addN F h]

/- ------------------------------------------------------------------ what always holds, still -/

theorem ok_safe {x : D} (h : Ok x) {G : Fs} (hs : SrtF G) (hf : ∀ n, (pgs G n).length ≤ (pgs x.now n).length) (hp : ∀ n, ∀ p ∈ pgs G n, p.size = 512) : Ok { x with safe := G } :=
  ⟨h.now, hs, h.room, h.tot, hf, h.waits, h.pnow, hp, h.fuse, h.keep⟩
theorem ok_app1 {x : D} (h : Ok x) {w : Wt} (hw : w ∈ x.waits) : Ok { x with safe := app1 x.safe w } := by
  obtain ⟨h1, h2⟩ := h.waits w hw
  refine ok_safe h (srt_put h.safe _ _) (fun n => ?_) fun n p hp => ?_
  · unfold app1; rw [pgs_put h.safe]
    split
    · rename_i e; subst e; rw [setP_len]; have := h.fewer w.n; omega
    · exact h.fewer n
  · unfold app1 at hp; rw [pgs_put h.safe] at hp
    split at hp
    · rcases setP_mem hp with rfl | rfl | hp
      · exact h2
      · exact zp_size
      · exact h.psafe _ _ hp
    · exact h.psafe _ _ hp
theorem ok_addN {x : D} (h : Ok x) (n : Str) : Ok { x with safe := addN x.safe n } :=
  ok_safe h (srt_addN h.safe n) (fun q => by rw [pgs_addN _ h.safe]; exact h.fewer q) fun q p hp => by rw [pgs_addN _ h.safe] at hp; exact h.psafe q p hp
theorem ok_addAll : ∀ (l : List Str) {x : D}, Ok x → Ok { x with safe := l.foldl addN x.safe }
  | [], _, h => h
  | n :: l, x, h => ok_addAll l (ok_addN h n)
theorem ok_keepW {x : D} (keep : Int) : ∀ (ws : List Wt) (i : Nat) {G : Fs}, Ok { x with safe := G } → (∀ w ∈ ws, w ∈ x.waits) → Ok { x with safe := keepW keep i ws G }
  | [], _, _, h, _ => h
  | w :: ws, i, G, h, hw => by
    have h2 : Ok { x with safe := app1 G w } := ok_app1 h (w := w) (hw w List.mem_cons_self)
    unfold keepW
    split
    · exact ok_keepW keep ws (i + 1) h2 fun w h => hw w (List.mem_cons_of_mem _ h)
    · exact ok_keepW keep ws (i + 1) h fun w h => hw w (List.mem_cons_of_mem _ h)
theorem ok_offS {x : D} (h : Ok x) (keep : Int) : Ok { x with safe := offS keep x } :=
  ok_addAll (names x.now) (ok_keepW keep x.waits 0 (G := x.safe) h fun _ h => h)
theorem ok_act {x : D} (h : Ok x) : Ok (act x) := ⟨h.now, h.safe, h.room, h.tot, h.fewer, h.waits, h.pnow, h.psafe, by show x.fuse - 1 ≤ _; have := h.fuse; omega, h.keep⟩
theorem ok_write {x : D} (h : Ok x) {s b : Str} {k : Nat} (hk : k ≤ (pgs x.now s).length) (hb : b.size ≤ 512) (hf : k = (pgs x.now s).length → 1 ≤ free x) :
    Ok { act x with now := put s (setP (pgs x.now s) k (pad b)) x.now, waits := x.waits ++ [⟨s, k, pad b⟩] } := by
  have hl : ∀ n, (pgs x.now n).length ≤ (pgs (put s (setP (pgs x.now s) k (pad b)) x.now) n).length := fun n => by
    rw [pgs_put h.now]
    split
    · rename_i e; subst e; rw [setP_len]; omega
    · exact Nat.le_refl _
  have a := ok_act h
  refine ⟨srt_put h.now _ _, h.safe, h.room, ?_, fun n => Nat.le_trans (h.fewer n) (hl n), fun w hw => ?_, fun n p hp => ?_, h.psafe, a.fuse, h.keep⟩
  · have h1 := tot_put h.now s (setP (pgs x.now s) k (pad b))
    rw [setP_len] at h1
    have h2 := h.tot
    show Dk.tot (put s (setP (pgs x.now s) k (pad b)) x.now) ≤ x.room
    by_cases e : k = (pgs x.now s).length
    · have := hf e; unfold free at this; omega
    · omega
  · rcases List.mem_append.1 hw with hw | hw
    · exact ⟨Nat.lt_of_lt_of_le (h.waits w hw).1 (hl w.n), (h.waits w hw).2⟩
    · simp only [List.mem_singleton] at hw
      subst hw
      refine ⟨?_, pad_size hb⟩
      show k < (pgs (put s (setP (pgs x.now s) k (pad b)) x.now) s).length
      rw [pgs_put h.now, if_pos rfl, setP_len]; omega
  · have hp : p ∈ pgs (put s (setP (pgs x.now s) k (pad b)) x.now) n := hp
    rw [pgs_put h.now] at hp
    split at hp
    · rcases setP_mem hp with rfl | rfl | hp
      · exact pad_size hb
      · exact zp_size
      · exact h.pnow _ _ hp
    · exact h.pnow _ _ hp
theorem tot_le : ∀ {F G : Fs}, SrtF F → SrtF G → (∀ n, (pgs F n).length ≤ (pgs G n).length) → tot F ≤ tot G
  | [], _, _, _, _ => Nat.zero_le _
  | p :: F, G, hF, hG, h => by
    have pF := List.pairwise_cons.1 hF
    have ih : tot F ≤ tot (del p.1 G) := tot_le pF.2 (srt_del hG _) fun n => by
      rw [pgs_del]
      by_cases e : n = p.1
      · subst e
        rw [if_pos rfl]
        have : mGet F p.1 = none := get_none_of_lt fun q hq => pF.1 q hq
        simp [pgs, this]
      · have := h n
        rw [if_neg e]
        simpa [pgs, mGet, Ne.symm e] using this
    have h1 := tot_del hG p.1
    have h2 : p.2.length ≤ (pgs G p.1).length := by have := h p.1; simpa [pgs, mGet] using this
    have h3 : tot (p :: F) = p.2.length + tot F := by simp [tot]
    omega
theorem ok_off {x : D} (h : Ok x) (keep : Int) : Ok (off keep x) := by
  unfold off
  split
  · exact h
  · have o := ok_offS h keep
    exact ⟨o.safe, o.safe, h.room, Nat.le_trans (tot_le o.safe h.now o.fewer) h.tot, fun _ => Nat.le_refl _, fun w hw => (by cases hw), o.psafe, o.psafe, Nat.zero_le _, h.keep⟩
end Go.Dk
