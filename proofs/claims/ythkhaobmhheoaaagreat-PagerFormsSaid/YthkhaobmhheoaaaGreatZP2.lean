/-
  Texts of this seat, laid one behind the other: CdR PgH PgI PgJ PgM. Conditions: none.
-/
import Derived.Test.YthkhaobmhheoaaaGreatZP
section
set_option linter.unusedSimpArgs false
set_option linter.unusedVariables false
set_option maxRecDepth 20000
namespace Go.Cd
open Go Go.Vc

/-- a number's bytes, read: from the i-th on. -/
def rdU : Nat → Nat → List UInt8 → Option (Nat × List UInt8)
  | _, _, [] => none
  | i, a, c :: l => if (i = 9 ∧ 1 < c.toNat) ∨ (0 < i ∧ c.toNat = 0) then none else if c.toNat < 128 then some (a + c.toNat * 128 ^ i, l) else rdU (i + 1) (a + (c.toNat - 128) * 128 ^ i) l
/-- what stands in a reader: the bytes that are left, or a fault. -/
abbrev Rs := Option (List UInt8)
def rUint : Rs → Nat × Rs
  | none => (0, none)
  | some l => match rdU 0 0 l with | none => (0, none) | some (n, r) => (n, some r)
def unzig (n : Nat) : Int := if n % 2 = 0 then ((n / 2 : Nat) : Int) else -((n / 2 : Nat) : Int) - 1
def rInt (o : Rs) : Int × Rs := (unzig (rUint o).1, (rUint o).2)
def rIn (lo hi : Int) (o : Rs) : Int × Rs := match rInt o with
  | (_, none) => (0, none)
  | (n, some l) => if n < lo ∨ hi < n then (0, none) else (n, some l)
def rTake (n : Int) : Rs → ByteArray × Rs
  | none => (⟨#[]⟩, none)
  | some l => if n < 0 ∨ (l.length : Int) < n then (⟨#[]⟩, none) else (⟨(l.take n.toNat).toArray⟩, some (l.drop n.toNat))
def rText (most : Int) (o : Rs) : ByteArray × Rs := match rUint o with
  | (n, o') => if most < 0 ∨ most < (n : Int) then (⟨#[]⟩, none) else rTake n o'
theorem uintB_ne0 {n : Nat} (h : 0 < n) : ∀ k, (h0 : k < (uintB n).length) → k = (uintB n).length - 1 → (uintB n)[k] ≠ 0 := by
  induction n using Nat.strongRecOn with | ind n ih =>
  intro k h0 hk
  by_cases hs : n < 128
  · have e := uintB_small hs
    have : k = 0 := by have := congrArg List.length e; simp at this; omega
    subst this
    have : (uintB n)[0] = UInt8.ofNat n := by simp [e]
    rw [this]
    intro h1
    have := congrArg UInt8.toNat h1
    rw [UInt8.toNat_ofNat'] at this
    simp at this; omega
  · have e := uintB_big hs
    have hl := congrArg List.length e
    rw [List.length_cons] at hl
    have hp := uintB_pos (n / 128)
    obtain ⟨k', rfl⟩ : ∃ k', k = k' + 1 := ⟨k - 1, by omega⟩
    have : (uintB n)[k' + 1] = (uintB (n / 128))[k']'(by omega) := by simp [e]
    rw [this]
    exact ih (n / 128) (by omega) (by omega) k' (by omega) (by omega)
/-- a number's bytes read as the number. -/
theorem rdU_uintB : ∀ (n i a : Nat) (r : List UInt8), (0 < i → 0 < n) → n * 128 ^ i < 18446744073709551616 → i ≤ 9 → rdU i a (uintB n ++ r) = some (a + n * 128 ^ i, r) := by
  intro n
  induction n using Nat.strongRecOn with | ind n ih =>
  intro i a r hi hb h9
  have e9 : (128 : Nat) ^ 9 = 9223372036854775808 := by decide
  by_cases hs : n < 128
  · rw [uintB_small hs]
    have ht : (UInt8.ofNat n).toNat = n := by rw [UInt8.toNat_ofNat']; omega
    show rdU i a (UInt8.ofNat n :: r) = _
    unfold rdU
    rw [ht, if_neg, if_pos hs]
    rintro (⟨rfl, h1⟩ | ⟨h1, h2⟩)
    · rw [e9] at hb; omega
    · have := hi h1; omega
  · rw [uintB_big hs]
    have ht : (UInt8.ofNat (n % 128 + 128)).toNat = n % 128 + 128 := by rw [UInt8.toNat_ofNat']; omega
    show rdU i a (UInt8.ofNat (n % 128 + 128) :: (uintB (n / 128) ++ r)) = _
    have h8 : i ≤ 8 := by
      rcases Nat.lt_or_ge i 9 with h | h
      · omega
      · have : i = 9 := by omega
        subst this
        rw [e9] at hb; omega
    unfold rdU
    rw [ht, if_neg (by omega), if_neg (by omega)]
    have hn : n = 128 * (n / 128) + n % 128 := by omega
    have hpow : (128 : Nat) ^ (i + 1) = 128 ^ i * 128 := Nat.pow_succ ..
    have hb' : n / 128 * 128 ^ (i + 1) < 18446744073709551616 := by
      rw [hpow]
      have h1 : n / 128 * (128 ^ i * 128) = (n / 128 * 128) * 128 ^ i := by
        rw [Nat.mul_comm (128 ^ i) 128, ← Nat.mul_assoc]
      rw [h1]
      exact Nat.lt_of_le_of_lt (Nat.mul_le_mul_right _ (by omega)) hb
    rw [ih (n / 128) (by omega) (i + 1) _ r (fun _ => by omega) hb' (by omega)]
    have h2 : n % 128 + 128 - 128 = n % 128 := by omega
    rw [h2, hpow]
    have h3 : n * 128 ^ i = n % 128 * 128 ^ i + n / 128 * (128 ^ i * 128) := by
      have h4 : n / 128 * (128 ^ i * 128) = (128 * (n / 128)) * 128 ^ i := by
        rw [Nat.mul_comm (128 ^ i) 128, ← Nat.mul_assoc, Nat.mul_comm (n / 128) 128]
      rw [h4, ← Nat.add_mul]
      congr 1; omega
    rw [h3]
    congr 2
    omega
theorem rUint_uintB {n : Nat} (h : n < 18446744073709551616) (r : List UInt8) : rUint (some (uintB n ++ r)) = (n, some r) := by
  unfold rUint
  dsimp only
  rw [rdU_uintB n 0 0 r (fun h => absurd h (by decide)) (by simpa using h) (by omega)]
  simp
theorem rInt_uintB {n : Nat} (h : n < 9223372036854775808) (r : List UInt8) : rInt (some (uintB (2 * n) ++ r)) = ((n : Int), some r) := by
  unfold rInt
  rw [rUint_uintB (by omega)]
  unfold unzig
  rw [if_pos (by omega)]
  congr 2
  omega
theorem rIn_uintB {n : Nat} {hi : Int} (h : n < 9223372036854775808) (hh : (n : Int) ≤ hi) (r : List UInt8) : rIn 0 hi (some (uintB (2 * n) ++ r)) = ((n : Int), some r) := by
  unfold rIn
  rw [rInt_uintB h]
  dsimp only
  rw [if_neg (by omega)]
theorem rText_textB {s : ByteArray} {most : Int} (h : (s.size : Int) ≤ most) (hs : s.size < 18446744073709551616) (r : List UInt8) : rText most (some (textB s ++ r)) = (s, some r) := by
  have hb : (bytesL s).length = s.size := by show s.data.toList.length = s.data.size; rw [Array.length_toList]
  unfold rText textB
  rw [List.append_assoc, rUint_uintB hs]
  dsimp only
  rw [if_neg (by omega)]
  unfold rTake
  dsimp only
  rw [if_neg (by rw [List.length_append, hb]; omega), Int.toNat_natCast]
  congr 1
  · cases s
    rw [List.take_append_of_le_length (by rw [hb]; exact Nat.le_refl _), List.take_of_length_le (by rw [hb]; exact Nat.le_refl _)]
  · rw [← hb, List.drop_left]
end Go.Cd
namespace Go.Cd
open Go Go.Vc
/-- the record at the beginning of bytes, and how many bytes it takes. -/
def nextF (bs : List UInt8) : Option (ByteArray × Nat) := match rText bs.length (some bs) with
  | (_, none) => none
  | (s, some _) => if bs.length < (uintB s.size).length + s.size + 4 then none else
    if (bs.drop ((uintB s.size).length + s.size)).take 4 = sumB (crc (bs.take ((uintB s.size).length + s.size))) then some (s, (uintB s.size).length + s.size + 4) else none
theorem nextF_len {bs : List UInt8} {s : ByteArray} {m : Nat} (h : nextF bs = some (s, m)) : 5 ≤ m ∧ m ≤ bs.length ∧ s.size ≤ m := by
  unfold nextF at h
  split at h
  · cases h
  · split at h
    · cases h
    · split at h
      · cases h
        have := uintB_pos s.size
        omega
      · cases h
theorem nextF_frame (s : ByteArray) (hs : s.size < 18446744073709551616) (r : List UInt8) : nextF (frameB s ++ r) = some (s, (frameB s).length) := by
  have hl := textB_len s
  have hfl := frameB_len s
  have e : rText ((frameB s ++ r).length : Int) (some (frameB s ++ r)) = (s, some (sumB (crc (textB s)) ++ r)) := by
    unfold frameB
    rw [List.append_assoc]
    exact rText_textB (by simp only [List.length_append]; omega) hs _
  unfold nextF
  rw [e]
  dsimp only
  rw [if_neg (by rw [List.length_append, hfl]; omega), if_pos]
  · rw [hfl, hl]
  · have e1 : frameB s ++ r = textB s ++ (sumB (crc (textB s)) ++ r) := by unfold frameB; rw [List.append_assoc]
    rw [e1, ← hl, List.drop_left, List.take_left]
    have : (sumB (crc (textB s))).length = 4 := rfl
    rw [← this, List.take_left]
/-- all records, one behind the other. -/
def splitN : Nat → List UInt8 → List ByteArray
  | 0, _ => []
  | k + 1, bs => match nextF bs with | none => [] | some (s, m) => s :: splitN k (bs.drop m)
def splitL (bs : List UInt8) : List ByteArray := splitN (bs.length + 1) bs
/-- how long a number's bytes are, by its bits. -/
theorem uintB_len_ge : ∀ (k n : Nat), 128 ^ k ≤ n → k + 1 ≤ (uintB n).length
  | 0, n, _ => uintB_pos n
  | k + 1, n, h => by
    have h1 : (128 : Nat) ^ (k + 1) = 128 ^ k * 128 := Nat.pow_succ ..
    have hp : 0 < (128 : Nat) ^ k := Nat.pow_pos (by decide)
    have hn : ¬ n < 128 := by omega
    rw [uintB_big hn, List.length_cons]
    have := uintB_len_ge k (n / 128) (by rw [h1] at h; exact (Nat.le_div_iff_mul_le (by decide)).2 h)
    omega
theorem size_bits {n x k : Nat} (hx : x = if n % 2 = 0 then n + 1 else n) (h1 : 2 ^ (k - 1) ≤ x) (h2 : x < 2 ^ k) (hk : 1 ≤ k) : (uintB n).length = (k + 6) / 7 := by
  have ep : ∀ j, (128 : Nat) ^ j = 2 ^ (7 * j) := fun j => by rw [Nat.pow_mul]
  obtain ⟨L, hL⟩ : ∃ L, (k + 6) / 7 = L + 1 := ⟨(k + 6) / 7 - 1, by omega⟩
  rw [hL]
  have hnx : n ≤ x := by rw [hx]; split <;> omega
  have up : n < 128 ^ (L + 1) := by
    rw [ep]
    exact Nat.lt_of_le_of_lt hnx (Nat.lt_of_lt_of_le h2 (Nat.pow_le_pow_right (by decide) (by omega)))
  have lo : 128 ^ L ≤ x := by
    rw [ep]
    exact Nat.le_trans (Nat.pow_le_pow_right (by decide) (by omega)) h1
  have lo' : L = 0 ∨ 128 ^ L ≤ n := by
    rcases Nat.eq_zero_or_pos L with h | h
    · exact .inl h
    · right
      obtain ⟨L', rfl⟩ : ∃ L', L = L' + 1 := ⟨L - 1, by omega⟩
      have e : (128 : Nat) ^ (L' + 1) = 2 * (64 * 128 ^ L') := by rw [Nat.pow_succ]; omega
      rw [e] at lo ⊢
      rw [hx] at lo
      split at lo <;> omega
  have a := uintB_len L n up
  rcases lo' with h | h
  · subst h
    have := uintB_pos n
    omega
  · have := uintB_len_ge L n h
    omega
end Go.Cd
namespace Go.Cd
open Go Go.Vc
/-- pages, read one by one as long as nothing was wrong. -/
def readRows : Nat → Rs → List (Int × ByteArray) × Rs
  | 0, o => ([], o)
  | _ + 1, none => ([], none)
  | k + 1, some l => (((rIn 0 4096 (some l)).1, (rText 512 (rIn 0 4096 (some l)).2).1) :: (readRows k (rText 512 (rIn 0 4096 (some l)).2).2).1, (readRows k (rText 512 (rIn 0 4096 (some l)).2).2).2)
theorem readRows_none : ∀ k, readRows k none = ([], none)
  | 0 => rfl
  | _ + 1 => rfl
/-- what a record of pages says. -/
def parse (bs : List UInt8) : Option (List (Int × ByteArray)) :=
  if (readRows (rIn 0 4096 (some bs)).1.toNat (rIn 0 4096 (some bs)).2).2 = some [] then some (readRows (rIn 0 4096 (some bs)).1.toNat (rIn 0 4096 (some bs)).2).1 else none
def jrnl (bs : List UInt8) : Option (List (Int × ByteArray)) := match nextF bs with
  | none => none
  | some (s, _) => parse (bytesL s)
theorem readRows_app : ∀ (W : List (Int × ByteArray)) (r : List UInt8), (∀ q ∈ W, 0 ≤ q.1 ∧ q.1 ≤ 4096 ∧ q.2.size ≤ 512) →
    readRows W.length (some (W.flatMap (fun q => uintB (2 * q.1.toNat) ++ textB q.2) ++ r)) = (W, some r)
  | [], r, _ => by simp [readRows]
  | q :: W, r, h => by
    obtain ⟨h1, h2, h3⟩ := h q List.mem_cons_self
    have e : (q :: W).flatMap (fun q => uintB (2 * q.1.toNat) ++ textB q.2) ++ r = uintB (2 * q.1.toNat) ++ (textB q.2 ++ (W.flatMap (fun q => uintB (2 * q.1.toNat) ++ textB q.2) ++ r)) := by
      rw [List.flatMap_cons]; simp only [List.append_assoc]
    rw [e, List.length_cons, readRows, rIn_uintB (by omega) (by omega), rText_textB (by omega) (by omega), readRows_app W r fun p hp => h p (List.mem_cons_of_mem _ hp)]
    have : ((q.1.toNat : Nat) : Int) = q.1 := by omega
    rw [this]
theorem rIn_lo {lo hi : Int} (h : lo ≤ 0) (o : Rs) : lo ≤ (rIn lo hi o).1 := by
  unfold rIn
  split
  · exact h
  · split
    · exact h
    · rename_i h1; simp only [not_or] at h1; exact Int.not_lt.1 h1.1
end Go.Cd
end

section
set_option linter.unusedSimpArgs false
set_option linter.unusedVariables false
namespace Go.Pg
open Go Go.Vc Go.Dk Go.Cd

/-- the last text of a number. -/
def lastR : Rw → Int → Option Str
  | [], _ => none
  | q :: P, k => match lastR P k with | some s => some s | none => if q.1 = k then some q.2 else none
theorem lastR_none {P : Rw} {k : Int} : lastR P k = none ↔ ∀ q ∈ P, q.1 ≠ k := by
  induction P with
  | nil => simp [lastR]
  | cons p P ih =>
    rw [lastR]
    cases h : lastR P k with
    | none =>
      have := ih.1 h
      by_cases h2 : p.1 = k
      · simp [h2]
      · simp only [if_neg h2, true_iff]
        intro q hq
        rcases List.mem_cons.1 hq with rfl | hq
        · exact h2
        · exact this q hq
    | some s =>
      simp only [reduceCtorEq, false_iff]
      intro h2
      rw [ih.2 fun q hq => h2 q (List.mem_cons_of_mem _ hq)] at h
      cases h
theorem setP_get {l : List Str} {i : Nat} (hi : i ≤ l.length) (p : Str) (k : Nat) : (setP l i p)[k]? = if i = k then some p else l[k]? := by
  unfold setP
  rw [List.getElem?_set]
  by_cases h : i = k
  · subst h
    rw [if_pos rfl, if_pos rfl, if_pos (by simp; omega)]
  · rw [if_neg h, if_neg h]
    by_cases h2 : k < l.length
    · rw [List.getElem?_append_left h2]
    · rw [List.getElem?_append_right (by omega), List.getElem?_replicate, if_neg (by omega), List.getElem?_eq_none (by omega)]
/-- what stands where once rows are laid. -/
theorem laidL_get : ∀ (W : Rw) (l : List Str) (k : Nat), seqB l.length W = true → (laidL W l)[k]? = match lastR W k with | some s => some (pad s) | none => l[k]?
  | [], l, k, _ => rfl
  | p :: W, l, k, h => by
    obtain ⟨⟨h1, h2⟩, h3⟩ := (seqB_cons _ _ _).1 h
    have hl := Pg.setP_len l p.1.toNat (pad p.2)
    have hl' : (setP l p.1.toNat (pad p.2)).length = if p.1 = l.length then l.length + 1 else l.length := by rw [hl]; split <;> omega
    rw [laidL, laidL_get W _ k (by rw [hl']; exact h3), lastR]
    cases lastR W k with
    | some s => rfl
    | none =>
      dsimp only
      rw [setP_get (by omega)]
      by_cases e : p.1 = k
      · rw [if_pos e, if_pos (by omega)]
      · rw [if_neg e, if_neg (by omega)]
theorem seq_shift : ∀ (W : Rw) (c j : Nat), seqB c W = true → j ≤ newN c W → seqB (c + j) W = true ∧ newN (c + j) W + j = newN c W
  | [], c, j, _, h => ⟨rfl, by simp [newN] at h ⊢; omega⟩
  | p :: W, c, j, h, hj => by
    obtain ⟨⟨h1, h2⟩, h3⟩ := (seqB_cons _ _ _).1 h
    rw [newN_cons] at hj
    by_cases e : p.1 = c
    · rw [if_pos e] at h3 hj
      cases j with
      | zero => exact ⟨h, rfl⟩
      | succ j =>
        obtain ⟨i1, i2⟩ := seq_shift W (c + 1) j h3 (by omega)
        have e1 : c + 1 + j = c + (j + 1) := by omega
        rw [e1] at i1 i2
        rw [seqB_cons, newN_cons, newN_cons, if_pos e, if_neg (by omega), if_neg (by omega)]
        exact ⟨⟨⟨h1, by omega⟩, i1⟩, by omega⟩
    · rw [if_neg e] at h3 hj
      obtain ⟨i1, i2⟩ := seq_shift W c j h3 hj
      rw [seqB_cons, newN_cons, newN_cons, if_neg e, if_neg (by omega), if_neg (by omega)]
      exact ⟨⟨⟨h1, by omega⟩, i1⟩, i2⟩
/-- pages between what was and what will be. -/
structure Btw (P : List Str) (W : Rw) (l : List Str) : Prop where
  lo : P.length ≤ l.length
  hi : l.length ≤ P.length + newN P.length W
  at_ : ∀ k : Nat, lastR W k = none → l[k]? = P[k]?
section
variable {P : List Str} {W : Rw} {l : List Str}
theorem Btw.refl (P : List Str) (W : Rw) : Btw P W P := ⟨Nat.le_refl _, Nat.le_add_right _ _, fun _ _ => rfl⟩
theorem Btw.seq (b : Btw P W l) (hs : seqB P.length W = true) : seqB l.length W = true ∧ l.length + newN l.length W = P.length + newN P.length W := by
  obtain ⟨i1, i2⟩ := seq_shift W P.length (l.length - P.length) hs (by have := b.hi; omega)
  have e : P.length + (l.length - P.length) = l.length := by have := b.lo; omega
  rw [e] at i1 i2
  exact ⟨i1, by have := b.lo; omega⟩
theorem Btw.laid (b : Btw P W l) (hs : seqB P.length W = true) : laidL W l = laidL W P := by
  obtain ⟨s1, s2⟩ := b.seq hs
  refine List.ext_getElem? fun k => ?_
  rw [laidL_get W l k s1, laidL_get W P k hs]
  cases h : lastR W k with
  | some s => rfl
  | none => exact b.at_ k h
/-- rows there are for what is new. -/
theorem new_row (hs : seqB P.length W = true) {k : Nat} (h1 : P.length ≤ k) (h2 : k < P.length + newN P.length W) : lastR W k ≠ none := fun h => by
  have hl := laidL_len W P hs
  have hg := laidL_get W P k hs
  rw [h] at hg
  dsimp only at hg
  rw [List.getElem?_eq_none (l := P) h1, List.getElem?_eq_none_iff] at hg
  omega
theorem Btw.set (b : Btw P W l) (hs : seqB P.length W = true) {i : Nat} (hi : i < P.length + newN P.length W) (hw : lastR W i ≠ none) (p : Str) : Btw P W (setP l i p) := by
  have hl := Pg.setP_len l i p
  refine ⟨by have := b.lo; omega, by have := b.hi; omega, fun k hk => ?_⟩
  have hki : i ≠ k := fun e => by subst e; exact hw hk
  unfold setP
  rw [List.getElem?_set, if_neg hki]
  by_cases h2 : k < l.length
  · rw [List.getElem?_append_left h2]; exact b.at_ k hk
  · rw [List.getElem?_append_right (by omega), List.getElem?_replicate]
    by_cases h3 : k - l.length < i + 1 - l.length
    · exfalso
      exact new_row hs (by have := b.lo; omega) (by omega) hk
    · rw [if_neg h3, List.getElem?_eq_none (by have := b.lo; omega)]
end
theorem keepW_other (keep : Int) (q : Str) : ∀ (ws : List Wt) (i : Nat) (F : Fs), SrtF F → (∀ w ∈ ws, w.n ≠ q) → mGet (keepW keep i ws F) q = mGet F q ∧ SrtF (keepW keep i ws F)
  | [], i, F, h, _ => ⟨rfl, h⟩
  | w :: ws, i, F, h, hw => by
    rw [keepW]
    have h1 : SrtF (if kept keep i then app1 F w else F) := by split; exact srt_put h _ _; exact h
    obtain ⟨a, b⟩ := keepW_other keep q ws (i + 1) _ h1 fun v hv => hw v (List.mem_cons_of_mem _ hv)
    refine ⟨a.trans ?_, b⟩
    split
    · unfold app1; rw [get_put h, if_neg (Ne.symm (hw w List.mem_cons_self))]
    · rfl
theorem keepW_srt (keep : Int) : ∀ (ws : List Wt) (i : Nat) (F : Fs), SrtF F → SrtF (keepW keep i ws F)
  | [], i, F, h => h
  | w :: ws, i, F, h => by
    rw [keepW]
    exact keepW_srt keep ws (i + 1) _ (by split; exact srt_put h _ _; exact h)
theorem keepW_btw {P : List Str} {W : Rw} (keep : Int) (nm : Str) (hs : seqB P.length W = true) : ∀ (ws : List Wt) (i : Nat) (F : Fs), SrtF F → Btw P W (pgs F nm) → (∀ w ∈ ws, w.n = nm ∧ w.i < P.length + newN P.length W ∧ lastR W w.i ≠ none) → Btw P W (pgs (keepW keep i ws F) nm)
  | [], i, F, h, b, _ => b
  | w :: ws, i, F, h, b, hw => by
    rw [keepW]
    obtain ⟨w1, w2, w3⟩ := hw w List.mem_cons_self
    refine keepW_btw keep nm hs ws (i + 1) _ (by split; exact srt_put h _ _; exact h) ?_ fun v hv => hw v (List.mem_cons_of_mem _ hv)
    split
    · unfold app1
      rw [Dk.pgs_put h, w1, if_pos rfl]
      exact b.set hs w2 w3 _
    · exact b
/-- after a loss of power. -/
theorem off_get {x : D} (ok : Ok x) (hdn : x.down = false) (k : Int) (q : Str) : (off k x).down = true ∧ (off k x).room = x.room ∧ (off k x).waits = [] ∧ (off k x).safe = (off k x).now ∧
    mGet (off k x).now q = (match mGet (keepW k 0 x.waits x.safe) q with | some l => some l | none => if (mGet x.now q).isSome then some [] else none) ∧ pgs (off k x).now q = pgs (keepW k 0 x.waits x.safe) q := by
  have hs := keepW_srt k x.waits 0 x.safe ok.safe
  have e : off k x = { x with now := offS k x, safe := offS k x, waits := [], down := true, fuse := 0 } := by unfold off; rw [if_neg (by rw [hdn]; decide)]
  rw [e]
  refine ⟨rfl, rfl, rfl, rfl, ?_, pgs_addAll _ _ hs q⟩
  show mGet ((names x.now).foldl addN (keepW k 0 x.waits x.safe)) q = _
  rw [get_addAll _ _ hs]
  cases mGet (keepW k 0 x.waits x.safe) q with
  | some l => rfl
  | none =>
    dsimp only
    by_cases h : q ∈ names x.now
    · have : (mGet x.now q).isSome = true := by
        cases hg : mGet x.now q with
        | some _ => rfl
        | none => exact absurd h (mGet_none.1 hg)
      rw [if_pos h, if_pos this]
    · rw [if_neg h, mGet_none.2 h]; rfl
/-- a call that is done, or in which the power goes. -/
def Res (room : Nat) (G B : D → Prop) (r : Int × D) : Prop :=
  (r.1 = 0 ∧ Ok r.2 ∧ r.2.room = room ∧ r.2.down = false ∧ G r.2) ∨ (r.1 = 8 ∧ Ok r.2 ∧ r.2.room = room ∧ r.2.down = true ∧ B r.2)
theorem Res.mono {room : Nat} {G G' B B' : D → Prop} {r : Int × D} (h : Res room G B r) (hg : ∀ y, Ok y → G y → G' y) (hb : ∀ y, Ok y → B y → B' y) : Res room G' B' r :=
  h.imp (fun ⟨a, b, c, d, e⟩ => ⟨a, b, c, d, hg _ b e⟩) fun ⟨a, b, c, d, e⟩ => ⟨a, b, c, d, hb _ b e⟩
section
variable {x : D} {n m : Str} {i : Int} {b : Str} {G B : D → Prop}
theorem res_off {y : D} (ok : Ok y) (hdn : y.down = false) (k : Int) (hb : B (off k y)) : Res y.room G B (8, off k y) :=
  .inr ⟨rfl, ok_off ok k, (off_get ok hdn k ⟨#[]⟩).2.1, (off_get ok hdn k ⟨#[]⟩).1, hb⟩
theorem write_res (ok : Ok x) (hdn : x.down = false) (hb : b.size ≤ 512) (hi : 0 ≤ i ∧ i ≤ (pgs x.now n).length) (hf : i = (pgs x.now n).length → 1 ≤ free x)
    (hg : ∀ y : D, Ok y → y.down = false → y.room = x.room → y.now = put n (setP (pgs x.now n) i.toNat (pad b)) x.now → y.safe = x.safe → y.waits = x.waits ++ [⟨n, i.toNat, pad b⟩] → G y ∧ ∀ k, B (off k y)) : Res x.room G B (write x n i b) := by
  have h1 : ¬ x.down = true := by rw [hdn]; decide
  have h3 : ¬ (i < 0 ∨ ((pgs x.now n).length : Int) < i) := by omega
  have h4 : ¬ (i = (pgs x.now n).length ∧ free x < 1) := fun ⟨a, b⟩ => by have := hf a; omega
  have hok : Ok { act x with now := put n (setP (pgs x.now n) i.toNat (pad b)) x.now, waits := x.waits ++ [⟨n, i.toNat, pad b⟩] } := by
    have := ok_write (x := x) ok (s := n) (b := b) (k := i.toNat) (by omega) hb (fun e => hf (by omega))
    exact this
  obtain ⟨g, o⟩ := hg _ hok hdn rfl rfl rfl rfl
  unfold write
  rw [if_neg h1, if_neg (by omega), if_neg h3, if_neg h4]
  dsimp only
  split
  · exact res_off hok hdn _ (o _)
  · exact .inl ⟨rfl, hok, rfl, hdn, g⟩
theorem may_two (hdn : x.down = false) (hn : (mGet x.now n).isSome = true) : Dk.may x n = (0, act x) ∨ Dk.may x n = (8, off (act x).keep (act x)) := by
  unfold Dk.may
  rw [if_neg (by rw [hdn]; decide)]
  cases hg : mGet x.now n with
  | none => rw [hg] at hn; cases hn
  | some l =>
    dsimp only
    unfold ended
    split
    · exact .inr rfl
    · exact .inl rfl
theorem ok_settle' (h : Ok x) (s : Str) : Ok { x with safe := put s (pgs x.now s) x.safe, waits := drop x.waits s 0 } := by
  refine ⟨h.now, srt_put h.safe _ _, h.room, h.tot, fun q => ?_, fun w hw => h.waits w (List.mem_filter.1 hw).1, h.pnow, fun q p hp => ?_, h.fuse, h.keep⟩
  · show (pgs (put s (pgs x.now s) x.safe) q).length ≤ _
    rw [Dk.pgs_put h.safe]
    split
    · rename_i e; subst e; exact Nat.le_refl _
    · exact h.fewer q
  · have hp : p ∈ pgs (put s (pgs x.now s) x.safe) q := hp
    rw [Dk.pgs_put h.safe] at hp
    split at hp
    · exact h.pnow s p hp
    · exact h.psafe q p hp
theorem sync_res (ok : Ok x) (hdn : x.down = false) (hn : (mGet x.now n).isSome = true) (hb : ∀ k, B (off k (act x)))
    (hg : ∀ y : D, Ok y → y.now = x.now → y.safe = put n (pgs x.now n) x.safe → y.waits = drop x.waits n 0 → G y) : Res x.room G B (sync x n) := by
  unfold sync
  rcases may_two hdn hn with h | h
  · rw [h]
    dsimp only
    rw [if_pos rfl]
    exact .inl ⟨rfl, ok_settle' (ok_act ok) n, rfl, hdn, hg _ (ok_settle' (ok_act ok) n) rfl rfl rfl⟩
  · rw [h]
    dsimp only
    rw [if_neg (by decide)]
    exact res_off (ok_act ok) hdn _ (hb _)
theorem rename_res (ok : Ok x) (hdn : x.down = false) (hn : (mGet x.now n).isSome = true) (hnm : n ≠ m) (hb : ∀ k, B (off k (act x)))
    (hg : ∀ y : D, Ok y → y.now = moved n m x.now → y.safe = moved n m x.safe → y.waits = (drop x.waits m 0).map (turnW n m) → G y) : Res x.room G B (rename x n m) := by
  unfold rename
  rcases may_two hdn hn with h | h
  · rw [h]
    dsimp only
    rw [if_pos ⟨rfl, hnm⟩]
    exact .inl ⟨rfl, ok_rename (ok_act ok) hnm, rfl, hdn, hg _ (ok_rename (ok_act ok) hnm) rfl rfl rfl⟩
  · rw [h]
    dsimp only
    rw [if_neg (fun h => by cases h.1)]
    exact res_off (ok_act ok) hdn _ (hb _)
theorem remove_res (ok : Ok x) (hdn : x.down = false) (hn : (mGet x.now n).isSome = true) (hb : ∀ k, B (off k (act x)))
    (hg : ∀ y : D, Ok y → y.now = del n x.now → y.safe = del n x.safe → y.waits = drop x.waits n 0 → G y) : Res x.room G B (remove x n) := by
  unfold remove
  rcases may_two hdn hn with h | h
  · rw [h]
    dsimp only
    rw [if_pos rfl]
    exact .inl ⟨rfl, ok_remove (ok_act ok) n, rfl, hdn, hg _ (ok_remove (ok_act ok) n) rfl rfl rfl⟩
  · rw [h]
    dsimp only
    rw [if_neg (by decide)]
    exact res_off (ok_act ok) hdn _ (hb _)
end
end Go.Pg
end

section
set_option linter.unusedSimpArgs false
set_option linter.unusedVariables false
namespace Go.Pg
open Go Go.Vc Go.Dk Go.Cd

/-- no journal; a draft may be there. -/
structure Idle (nm : Str) (P : List Str) (x : D) : Prop where
  jn : mGet x.now (nmJ nm) = none
  js : mGet x.safe (nmJ nm) = none
  pn : pgs x.now nm = P
  ps : pgs x.safe nm = P
  wt : ∀ w ∈ x.waits, w.n = nmT nm
  on : ∀ q l, mGet x.now q = some l → q = nm ∨ q = nmT nm
  os : ∀ q l, mGet x.safe q = some l → q = nm ∨ q = nmT nm
/-- no draft either. -/
structure Clean (nm : Str) (P : List Str) (x : D) : Prop where
  idle : Idle nm P x
  tn : mGet x.now (nmT nm) = none
/-- a journal; pages in between. -/
structure Jrn (nm : Str) (P : List Str) (W : Rw) (K : List Str) (x : D) : Prop where
  tn : mGet x.now (nmT nm) = none
  ts : mGet x.safe (nmT nm) = none
  jn : mGet x.now (nmJ nm) = some K
  js : mGet x.safe (nmJ nm) = some K
  bn : Btw P W (pgs x.now nm)
  bs : Btw P W (pgs x.safe nm)
  wt : ∀ w ∈ x.waits, w.n = nm ∧ w.i < P.length + newN P.length W ∧ lastR W w.i ≠ none
  on : ∀ q l, mGet x.now q = some l → q = nm ∨ q = nmJ nm
  os : ∀ q l, mGet x.safe q = some l → q = nm ∨ q = nmJ nm
section
variable {nm : Str} {P K : List Str} {W : Rw} {x : D}
theorem Idle.act (h : Idle nm P x) : Idle nm P (act x) := ⟨h.jn, h.js, h.pn, h.ps, h.wt, h.on, h.os⟩
theorem Jrn.act (h : Jrn nm P W K x) : Jrn nm P W K (act x) := ⟨h.tn, h.ts, h.jn, h.js, h.bn, h.bs, h.wt, h.on, h.os⟩
theorem off_down {x : D} (h : x.down = true) (k : Int) : off k x = x := by unfold off; rw [if_pos h]
theorem Idle.off (ok : Ok x) (h : Idle nm P x) (k : Int) : Idle nm P (off k x) := by
  cases hdn : x.down with
  | true => rw [off_down hdn]; exact h
  | false =>
    obtain ⟨n1, n2, n3⟩ := nm_ne nm
    have og := fun q => off_get ok hdn k q
    have other : ∀ q, q ≠ nmT nm → mGet (keepW k 0 x.waits x.safe) q = mGet x.safe q := fun q hq => (keepW_other k q x.waits 0 x.safe ok.safe fun w hw e => hq (e ▸ (h.wt w hw).symm ▸ rfl)).1
    have hj : mGet (Dk.off k x).now (nmJ nm) = none := by
      rw [(og _).2.2.2.2.1, other _ (Ne.symm n3), h.js]
      dsimp only
      rw [h.jn]; rfl
    have hp : pgs (Dk.off k x).now nm = P := by
      rw [(og nm).2.2.2.2.2]
      unfold pgs
      rw [other _ (Ne.symm n1)]
      exact h.ps
    have hon : ∀ q l, mGet (Dk.off k x).now q = some l → q = nm ∨ q = nmT nm := fun q l hq => by
      by_cases e : q = nmT nm
      · exact .inr e
      · rw [(og q).2.2.2.2.1, other q e] at hq
        cases hs : mGet x.safe q with
        | some l' => exact h.os q l' hs
        | none =>
          rw [hs] at hq
          dsimp only at hq
          cases hn : mGet x.now q with
          | some l' => exact h.on q l' hn
          | none => rw [hn] at hq; cases hq
    have hsafe := (og nm).2.2.2.1
    refine ⟨hj, by rw [hsafe]; exact hj, hp, by rw [hsafe]; exact hp, fun w hw => (by rw [(og nm).2.2.1] at hw; cases hw), hon, by rw [hsafe]; exact hon⟩
theorem Clean.off (ok : Ok x) (h : Clean nm P x) (hts : mGet x.safe (nmT nm) = none) (hw : x.waits = []) (k : Int) : Clean nm P (off k x) := by
  refine ⟨h.idle.off ok k, ?_⟩
  cases hdn : x.down with
  | true => rw [off_down hdn]; exact h.tn
  | false =>
    rw [(off_get ok hdn k _).2.2.2.2.1, hw]
    show (match mGet x.safe (nmT nm) with | some l => some l | none => if (mGet x.now (nmT nm)).isSome then some [] else none) = none
    rw [hts, h.tn]; rfl
theorem Jrn.off (ok : Ok x) (hs : seqB P.length W = true) (h : Jrn nm P W K x) (k : Int) : Jrn nm P W K (off k x) := by
  cases hdn : x.down with
  | true => rw [off_down hdn]; exact h
  | false =>
    obtain ⟨n1, n2, n3⟩ := nm_ne nm
    have og := fun q => off_get ok hdn k q
    have other : ∀ q, q ≠ nm → mGet (keepW k 0 x.waits x.safe) q = mGet x.safe q := fun q hq => (keepW_other k q x.waits 0 x.safe ok.safe fun w hw e => hq (e ▸ (h.wt w hw).1.symm ▸ rfl)).1
    have ht : mGet (Dk.off k x).now (nmT nm) = none := by
      rw [(og _).2.2.2.2.1, other _ n1, h.ts]
      dsimp only
      rw [h.tn]; rfl
    have hj : mGet (Dk.off k x).now (nmJ nm) = some K := by
      rw [(og _).2.2.2.2.1, other _ n2, h.js]
    have hb : Btw P W (pgs (Dk.off k x).now nm) := by
      rw [(og nm).2.2.2.2.2]
      exact keepW_btw k nm hs x.waits 0 x.safe ok.safe h.bs h.wt
    have hon : ∀ q l, mGet (Dk.off k x).now q = some l → q = nm ∨ q = nmJ nm := fun q l hq => by
      by_cases e : q = nm
      · exact .inl e
      · rw [(og q).2.2.2.2.1, other q e] at hq
        cases hs : mGet x.safe q with
        | some l' => exact h.os q l' hs
        | none =>
          rw [hs] at hq
          dsimp only at hq
          cases hn : mGet x.now q with
          | some l' => exact h.on q l' hn
          | none => rw [hn] at hq; cases hq
    have hsafe := (og nm).2.2.2.1
    refine ⟨ht, by rw [hsafe]; exact ht, hj, by rw [hsafe]; exact hj, hb, by rw [hsafe]; exact hb, fun w hw => (by rw [(og nm).2.2.1] at hw; cases hw), hon, by rw [hsafe]; exact hon⟩
/- ------------------------------------------------------------------ a draft -/
theorem draft_res : ∀ (V : Rw) {x : D}, Ok x → x.down = false → Idle nm P x → (∀ p ∈ V, p.2.size ≤ 512) → seqB (pgs x.now (nmT nm)).length V = true → (newN (pgs x.now (nmT nm)).length V : Int) ≤ free x →
    Res x.room (fun y => Idle nm P y ∧ pgs y.now (nmT nm) = laidL V (pgs x.now (nmT nm)) ∧ (V ≠ [] → (mGet y.now (nmT nm)).isSome = true)) (Idle nm P) (layW (nmT nm) V x)
  | [], x, ok, hdn, h, _, _, _ => .inl ⟨rfl, ok, rfl, hdn, h, rfl, fun h => absurd rfl h⟩
  | p :: V, x, ok, hdn, h, hz, hs, hf => by
    obtain ⟨n1, n2, n3⟩ := nm_ne nm
    obtain ⟨⟨s1, s2⟩, s3⟩ := (seqB_cons _ _ _).1 hs
    rw [newN_cons] at hf
    have hl := Pg.setP_len (pgs x.now (nmT nm)) p.1.toNat (pad p.2)
    have hl' : (setP (pgs x.now (nmT nm)) p.1.toNat (pad p.2)).length = if p.1 = (pgs x.now (nmT nm)).length then (pgs x.now (nmT nm)).length + 1 else (pgs x.now (nmT nm)).length := by rw [hl]; split <;> omega
    have w := write_res (B := Idle nm P) (G := fun y => Idle nm P y ∧ pgs y.now (nmT nm) = setP (pgs x.now (nmT nm)) p.1.toNat (pad p.2) ∧ (mGet y.now (nmT nm)).isSome = true ∧ free y + (setP (pgs x.now (nmT nm)) p.1.toNat (pad p.2)).length = free x + (pgs x.now (nmT nm)).length)
      (n := nmT nm) (i := p.1) (b := p.2) ok hdn (hz p List.mem_cons_self) ⟨s1, s2⟩ (fun e => by rw [if_pos e] at hf; omega) fun y oky hdy hroom hnow hsafe hwaits => by
      have iy : Idle nm P y := by
        refine ⟨by rw [hnow, get_put ok.now, if_neg (Ne.symm n3)]; exact h.jn, by rw [hsafe]; exact h.js, by rw [hnow, Dk.pgs_put ok.now, if_neg (Ne.symm n1)]; exact h.pn, by rw [hsafe]; exact h.ps, fun w hw => ?_, fun q l hq => ?_, by rw [hsafe]; exact h.os⟩
        · rw [hwaits] at hw
          rcases List.mem_append.1 hw with hw | hw
          · exact h.wt w hw
          · rw [List.mem_singleton.1 hw]
        · rw [hnow, get_put ok.now] at hq
          by_cases e : q = nmT nm
          · exact .inr e
          · rw [if_neg e] at hq; exact h.on q l hq
      refine ⟨⟨iy, by rw [hnow, Dk.pgs_put ok.now, if_pos rfl], by rw [hnow, get_put ok.now, if_pos rfl]; rfl, ?_⟩, fun k => iy.off oky k⟩
      have ht := tot_put ok.now (nmT nm) (setP (pgs x.now (nmT nm)) p.1.toNat (pad p.2))
      unfold free; rw [hroom, hnow]; omega
    rw [layW]
    rcases w with ⟨w1, w2, w3, w4, w5, w6, w7, w8⟩ | ⟨w1, w2, w3, w4, w5⟩
    · rw [if_neg (by rw [w1]; decide)]
      have ih := draft_res V (x := (write x (nmT nm) p.1 p.2).2) w2 w4 w5 (fun r hr => hz r (List.mem_cons_of_mem _ hr)) (by rw [w6, hl']; exact s3) (by
        rw [w6, hl']
        by_cases e : p.1 = (pgs x.now (nmT nm)).length
        · rw [if_pos e] at hl' hf ⊢; omega
        · rw [if_neg e] at hl' hf ⊢; omega)
      rw [w3] at ih
      refine ih.mono (fun y oky ⟨a, b, c⟩ => ⟨a, by rw [b, w6, laidL], fun _ => ?_⟩) fun _ _ h => h
      by_cases hV : V = []
      · subst hV
        rw [w6] at b
        have hne : pgs y.now (nmT nm) ≠ [] := fun e => by
          rw [b] at e
          have e2 := congrArg List.length e
          rw [laidL, hl] at e2; simp at e2
        cases hg : mGet y.now (nmT nm) with
        | some _ => rfl
        | none => exact absurd (by unfold pgs; rw [hg]; rfl) hne
      · exact c hV
    · rw [if_pos (by rw [w1]; decide)]
      exact .inr ⟨w1, w2, w3, w4, w5⟩
/- ------------------------------------------------------------------ pages are laid -/
theorem lays_res (hs : seqB P.length W = true) : ∀ (V : Rw) {x : D}, Ok x → x.down = false → Jrn nm P W K x → (∀ p ∈ V, p ∈ W) → (∀ p ∈ W, p.2.size ≤ 512) → seqB (pgs x.now nm).length V = true → (pgs x.now nm).length + newN (pgs x.now nm).length V ≤ P.length + newN P.length W →
    P.length + newN P.length W + K.length ≤ x.room → Res x.room (fun y => Jrn nm P W K y ∧ pgs y.now nm = laidL V (pgs x.now nm)) (Jrn nm P W K) (layW nm V x)
  | [], x, ok, hdn, h, _, _, _, _, _ => .inl ⟨rfl, ok, rfl, hdn, h, rfl⟩
  | p :: V, x, ok, hdn, h, hsub, hz, hsq, hle, hroom => by
    obtain ⟨n1, n2, n3⟩ := nm_ne nm
    obtain ⟨⟨s1, s2⟩, s3⟩ := (seqB_cons _ _ _).1 hsq
    rw [newN_cons] at hle
    have hpW := hsub p List.mem_cons_self
    have hl := Pg.setP_len (pgs x.now nm) p.1.toNat (pad p.2)
    have hl' : (setP (pgs x.now nm) p.1.toNat (pad p.2)).length = if p.1 = (pgs x.now nm).length then (pgs x.now nm).length + 1 else (pgs x.now nm).length := by rw [hl]; split <;> omega
    have hpi : p.1.toNat < P.length + newN P.length W := by
      by_cases e : p.1 = (pgs x.now nm).length
      · rw [if_pos e] at hle; omega
      · have := h.bn.hi; omega
    have hlast : lastR W (p.1.toNat : Nat) ≠ none := fun e => by
      have := lastR_none.1 e p hpW
      omega
    -- what is taken
    have htot : tot x.now = (pgs x.now nm).length + K.length := by
      have h1 := tot_del ok.now (nmJ nm)
      have h2 := tot_del (srt_del ok.now (nmJ nm)) nm
      have h3 : del nm (del (nmJ nm) x.now) = [] := by
        refine fs_ext (srt_del (srt_del ok.now _) _) List.Pairwise.nil fun q => ?_
        rw [get_del, get_del]
        by_cases e1 : q = nm
        · rw [if_pos e1]; rfl
        · rw [if_neg e1]
          by_cases e2 : q = nmJ nm
          · rw [if_pos e2]; rfl
          · rw [if_neg e2]
            cases hg : mGet x.now q with
            | none => rfl
            | some l => rcases h.on q l hg with e | e
                        · exact absurd e e1
                        · exact absurd e e2
      have h4 : pgs (del (nmJ nm) x.now) nm = pgs x.now nm := by rw [Dk.pgs_del, if_neg (Ne.symm n2)]
      have h5 : pgs x.now (nmJ nm) = K := by unfold pgs; rw [h.jn]; rfl
      rw [h3, h4] at h2
      rw [h5] at h1
      have h6 : tot ([] : Fs) = 0 := rfl
      omega
    have w := write_res (B := Jrn nm P W K) (G := fun y => Jrn nm P W K y ∧ pgs y.now nm = setP (pgs x.now nm) p.1.toNat (pad p.2)) (n := nm) (i := p.1) (b := p.2) ok hdn (hz p hpW) ⟨s1, s2⟩ (fun e => by
        rw [if_pos e] at hle
        unfold free
        rw [htot]
        omega) fun y oky hdy hroomy hnow hsafe hwaits => by
      have jy : Jrn nm P W K y := by
        refine ⟨by rw [hnow, get_put ok.now, if_neg n1]; exact h.tn, by rw [hsafe]; exact h.ts, by rw [hnow, get_put ok.now, if_neg n2]; exact h.jn, by rw [hsafe]; exact h.js, by rw [hnow, Dk.pgs_put ok.now, if_pos rfl]; exact h.bn.set hs hpi hlast _, by rw [hsafe]; exact h.bs,
          fun w hw => ?_, fun q l hq => ?_, by rw [hsafe]; exact h.os⟩
        · rw [hwaits] at hw
          rcases List.mem_append.1 hw with hw | hw
          · exact h.wt w hw
          · rw [List.mem_singleton.1 hw]; exact ⟨rfl, hpi, hlast⟩
        · rw [hnow, get_put ok.now] at hq
          by_cases e : q = nm
          · exact .inl e
          · rw [if_neg e] at hq; exact h.on q l hq
      exact ⟨⟨jy, by rw [hnow, Dk.pgs_put ok.now, if_pos rfl]⟩, fun k => jy.off oky hs k⟩
    rw [layW]
    rcases w with ⟨w1, w2, w3, w4, w5, w6⟩ | ⟨w1, w2, w3, w4, w5⟩
    · rw [if_neg (by rw [w1]; decide)]
      have ih := lays_res hs V (x := (write x nm p.1 p.2).2) w2 w4 w5 (fun r hr => hsub r (List.mem_cons_of_mem _ hr)) hz (by rw [w6, hl']; exact s3) (by
        rw [w6, hl']
        by_cases e : p.1 = (pgs x.now nm).length
        · rw [if_pos e] at hle ⊢; omega
        · rw [if_neg e] at hle ⊢; omega) (by rw [w3]; exact hroom)
      rw [w3] at ih
      exact ih.mono (fun y oky ⟨a, b⟩ => ⟨a, by rw [b, w6, laidL]⟩) fun _ _ h => h
    · rw [if_pos (by rw [w1]; decide)]
      exact .inr ⟨w1, w2, w3, w4, w5⟩
theorem drop_all {ws : List Wt} {n : Str} (h : ∀ w ∈ ws, w.n = n) : drop ws n 0 = [] := by
  unfold drop
  exact List.filter_eq_nil_iff.2 fun w hw => by simp [h w hw]
theorem lay_res (ok : Ok x) (hdn : x.down = false) (hs : seqB P.length W = true) (hW : W ≠ []) (hz : ∀ p ∈ W, p.2.size ≤ 512) (h : Jrn nm P W K x) (hroom : P.length + newN P.length W + K.length ≤ x.room) :
    Res x.room (fun y => Clean nm (laidL W P) y ∧ mGet y.safe (nmT nm) = none ∧ y.waits = []) (Jrn nm P W K) (lay nm W x) := by
  obtain ⟨n1, n2, n3⟩ := nm_ne nm
  obtain ⟨q1, q2⟩ := h.bn.seq hs
  have a := lays_res (K := K) hs W ok hdn h (fun _ h => h) hz q1 (by omega) hroom
  unfold lay
  rcases a with ⟨a1, a2, a3, a4, a5, a6⟩ | ⟨a1, a2, a3, a4, a5⟩
  · rw [if_neg (by rw [a1]; decide)]
    rw [h.bn.laid hs] at a6
    have hl1 : lay1 nm W (layW nm W x).2 = sync (layW nm W x).2 nm := by unfold lay1; rw [if_neg hW]
    rw [hl1]
    generalize (layW nm W x).2 = y at a2 a3 a4 a5 a6
    have hQ : laidL W P ≠ [] := fun e => by
      have e2 := congrArg List.length e
      rw [laidL_len W P hs] at e2
      cases hWW : W with
      | nil => exact hW hWW
      | cons p V =>
        rw [hWW] at hs e2
        obtain ⟨⟨h1, h2⟩, _⟩ := (seqB_cons _ _ _).1 hs
        rw [newN_cons] at e2
        simp only [List.length_nil] at e2
        split at e2 <;> omega
    have hisn : (mGet y.now nm).isSome = true := by
      cases hg : mGet y.now nm with
      | some _ => rfl
      | none => exact absurd (by rw [← a6]; unfold pgs; rw [hg]; rfl) hQ
    have s := sync_res (B := Jrn nm P W K) (G := fun z => Jrn nm P W K z ∧ pgs z.now nm = laidL W P ∧ pgs z.safe nm = laidL W P ∧ z.waits = []) (n := nm) a2 a4 hisn (fun k => a5.act.off (ok_act a2) hs k) fun z okz hnow hsafe hwaits => by
      have hwn : z.waits = [] := by rw [hwaits]; exact drop_all fun w hw => (a5.wt w hw).1
      refine ⟨⟨by rw [hnow]; exact a5.tn, by rw [hsafe, get_put a2.safe, if_neg n1]; exact a5.ts, by rw [hnow]; exact a5.jn, by rw [hsafe, get_put a2.safe, if_neg n2]; exact a5.js, by rw [hnow]; exact a5.bn,
        by rw [hsafe, Dk.pgs_put a2.safe, if_pos rfl]; exact a5.bn, by rw [hwn]; simp, by rw [hnow]; exact a5.on, fun q l hq => ?_⟩, by rw [hnow]; exact a6, by rw [hsafe, Dk.pgs_put a2.safe, if_pos rfl]; exact a6, hwn⟩
      rw [hsafe, get_put a2.safe] at hq
      by_cases e : q = nm
      · exact .inl e
      · rw [if_neg e] at hq; exact a5.os q l hq
    rcases s with ⟨b1, b2, b3, b4, b5, b6, b7, b8⟩ | ⟨b1, b2, b3, b4, b5⟩
    · rw [if_neg (by rw [b1]; decide)]
      generalize (sync y nm).2 = z at b2 b3 b4 b5 b6 b7 b8
      have r := remove_res (B := Jrn nm P W K) (G := fun u => Clean nm (laidL W P) u ∧ mGet u.safe (nmT nm) = none ∧ u.waits = []) (n := nmJ nm) b2 b4 (by rw [b5.jn]; rfl) (fun k => b5.act.off (ok_act b2) hs k) fun u oku hnow hsafe hwaits => by
        refine ⟨⟨⟨by rw [hnow, get_del, if_pos rfl], by rw [hsafe, get_del, if_pos rfl], by rw [hnow, Dk.pgs_del, if_neg (Ne.symm n2)]; exact b6, by rw [hsafe, Dk.pgs_del, if_neg (Ne.symm n2)]; exact b7, ?_, fun q l hq => ?_, fun q l hq => ?_⟩, by rw [hnow, get_del, if_neg n3]; exact b5.tn⟩, by rw [hsafe, get_del, if_neg n3]; exact b5.ts, by rw [hwaits, b8]; rfl⟩
        · rw [hwaits, b8]; intro w hw; cases hw
        · rw [hnow, get_del] at hq
          by_cases e : q = nmJ nm
          · rw [if_pos e] at hq; cases hq
          · rw [if_neg e] at hq
            exact (b5.on q l hq).imp id fun h => absurd h e
        · rw [hsafe, get_del] at hq
          by_cases e : q = nmJ nm
          · rw [if_pos e] at hq; cases hq
          · rw [if_neg e] at hq
            exact (b5.os q l hq).imp id fun h => absurd h e
      have hr : z.room = x.room := b3.trans a3
      rw [hr] at r
      exact r
    · rw [if_pos (by rw [b1]; decide)]
      exact .inr ⟨b1, b2, b3.trans a3, b4, b5⟩
  · rw [if_pos (by rw [a1]; decide)]
    exact .inr ⟨a1, a2, a3, a4, a5⟩
end
end Go.Pg
end

section
set_option linter.unusedSimpArgs false
set_option linter.unusedVariables false
namespace Go.Pg
open Go Go.Vc Go.Dk Go.Cd

/- ------------------------------------------------------------------ a journal's bytes -/
theorem bytesL_sz (s : Str) : (bytesL s).length = s.size := by show s.data.toList.length = s.data.size; rw [Array.length_toList]
theorem bytesL_pad (s : Str) : bytesL (pad s) = bytesL s ++ List.replicate (512 - s.size) 0 := by
  show (s.data ++ Array.replicate (512 - s.size) 0).toList = _
  rw [Array.toList_append, Array.toList_replicate]
theorem bytesL_part (l : List UInt8) (k : Nat) : bytesL (partB l k) = (l.drop (512 * k)).take 512 := by
  unfold partB bytesL
  simp
theorem blk_bytes {l : List UInt8} {Z k : Nat} (h : 512 * k ≤ l.length) (h2 : 512 * (k + 1) ≤ l.length + Z) : bytesL (pad (partB l k)) = ((l ++ List.replicate Z 0).drop (512 * k)).take 512 := by
  have hs : (partB l k).size = min 512 (l.length - 512 * k) := by
    rw [← bytesL_sz, bytesL_part, List.length_take, List.length_drop]
  rw [bytesL_pad, bytesL_part, hs, List.drop_append_of_le_length h, List.take_append, List.take_replicate, List.length_drop]
  congr 2
  omega
theorem flat_blks (l : List UInt8) (Z : Nat) : ∀ (m k : Nat), (m ≠ 0 → 512 * (k + m - 1) ≤ l.length) → 512 * (k + m) ≤ l.length + Z →
    ((List.range' k m).map fun j => pad (partB l j)).flatMap bytesL = ((l ++ List.replicate Z 0).drop (512 * k)).take (512 * m)
  | 0, k, _, _ => by simp
  | m + 1, k, h1, h2 => by
    have h1' := h1 (by omega)
    rw [List.range'_succ, List.map_cons, List.flatMap_cons, blk_bytes (Z := Z) (by omega) (by omega), flat_blks l Z m (k + 1) (fun _ => by omega) (by omega)]
    have e : 512 * (m + 1) = 512 + 512 * m := by omega
    have e2 : 512 * (k + 1) = 512 * k + 512 := by omega
    rw [e, e2, List.take_add, List.drop_drop]
theorem lastR_range (g : Nat → Str) : ∀ (m c : Nat) (k : Nat), lastR ((List.range' c m).map fun j : Nat => (((j : Nat) : Int), g j)) (k : Int) = if c ≤ k ∧ k < c + m then some (g k) else none
  | 0, c, k => by
    rw [if_neg (by omega)]; rfl
  | m + 1, c, k => by
    rw [List.range'_succ, List.map_cons, lastR, lastR_range g m (c + 1) k]
    by_cases h : c + 1 ≤ k ∧ k < c + 1 + m
    · rw [if_pos h]
      dsimp only
      rw [if_pos (by omega)]
    · rw [if_neg h]
      dsimp only
      by_cases e : (c : Int) = k
      · have : c = k := by omega
        subst this
        rw [if_pos rfl, if_pos (by omega)]
      · rw [if_neg e, if_neg (by omega)]
theorem parts_laid (l : List UInt8) : laidL (partsW l) [] = (List.range (nparts l)).map fun k => pad (partB l k) := by
  have hseq := seq_range (partB l) (nparts l) 0
  rw [← List.range_eq_range'] at hseq
  refine List.ext_getElem? fun k => ?_
  rw [laidL_get (partsW l) [] k hseq.1]
  have := lastR_range (partB l) (nparts l) 0 k
  rw [← List.range_eq_range'] at this
  unfold partsW
  rw [this, List.getElem?_map]
  by_cases h : k < nparts l
  · rw [if_pos (by omega), List.getElem?_range h]; rfl
  · have e : (List.range (nparts l))[k]? = none := List.getElem?_eq_none (by rw [List.length_range]; omega)
    rw [if_neg (by omega), e]; rfl
theorem parts_flat {l : List UInt8} (hl : 0 < l.length) : (laidL (partsW l) []).flatMap bytesL = l ++ List.replicate (512 * nparts l - l.length) 0 := by
  rw [parts_laid, List.range_eq_range', flat_blks l (512 * nparts l - l.length) (nparts l) 0 (fun _ => by unfold nparts; omega) (by unfold nparts; omega)]
  rw [Nat.mul_zero, List.drop_zero, List.take_of_length_le]
  rw [List.length_append, List.length_replicate]
  unfold nparts; omega
theorem jrnl_frame {W : Rw} (hz : ∀ q ∈ W, 0 ≤ q.1 ∧ q.1 ≤ 4096 ∧ q.2.size ≤ 512) (hl : W.length ≤ 4096) (r : List UInt8) : jrnl (frameW W ++ r) = some W := by
  have hu := uintB_len10 (n := 2 * W.length) (by omega)
  have hr : ∀ (V : Rw), (∀ q ∈ V, 0 ≤ q.1 ∧ q.1 ≤ 4096 ∧ q.2.size ≤ 512) → (V.flatMap fun p => uintB (2 * p.1.toNat) ++ textB p.2).length ≤ V.length * 532 := by
    intro V
    induction V with
    | nil => intro _; simp
    | cons q V ih =>
      intro h
      obtain ⟨h1, h2, h3⟩ := h q List.mem_cons_self
      have a := uintB_len10 (n := 2 * q.1.toNat) (by omega)
      have b := uintB_len10 (n := q.2.size) (by omega)
      have c := textB_len q.2
      have := ih fun p hp => h p (List.mem_cons_of_mem _ hp)
      rw [List.flatMap_cons, List.length_append, List.length_append, List.length_cons]; omega
  have hrec : (record W).length ≤ 2200000 := by
    have := hr W hz
    unfold record
    rw [List.length_append]; omega
  have hsz : (⟨(record W).toArray⟩ : ByteArray).size = (record W).length := by show (record W).toArray.size = _; rw [List.size_toArray]
  unfold jrnl frameW
  rw [nextF_frame _ (by rw [hsz]; omega)]
  dsimp only
  have hb : bytesL (⟨(record W).toArray⟩ : ByteArray) = record W := by simp [bytesL]
  rw [hb]
  unfold parse
  have h1 : rIn 0 4096 (some (record W)) = ((W.length : Int), some (W.flatMap fun p => uintB (2 * p.1.toNat) ++ textB p.2)) := by
    unfold record
    exact rIn_uintB (by omega) (by omega) _
  have h2 := readRows_app W [] hz
  rw [List.append_nil] at h2
  rw [h1]
  dsimp only
  rw [Int.toNat_natCast, h2, if_pos rfl]
/- ------------------------------------------------------------------ a commit -/
section
variable {nm : Str} {P K : List Str} {W : Rw} {x : D}
theorem wants_zero {c : Nat} {f : Int} (h : wants c f W = 0) (hW : W ≠ []) : (∀ p ∈ W, p.2.size ≤ 512) ∧ seqB c W = true ∧ (nparts (frameW W) : Int) + newN c W ≤ f := by
  unfold wants at h
  split at h
  · cases h
  · rename_i h1
    split at h
    · cases h
    · rename_i h2
      split at h
      · cases h
      · exact ⟨fun p hp => Nat.le_of_not_lt fun h3 => h1 (List.any_eq_true.2 ⟨p, hp, by simp [h3]⟩), by simpa using h2, by omega⟩
theorem journal_res (ok : Ok x) (hdn : x.down = false) (h : Clean nm P x) {l : List UInt8} (hl : 0 < nparts l) (hf : (nparts l : Int) ≤ free x) :
    Res x.room (Jrn nm P W (laidL (partsW l) [])) (Idle nm P) (journal nm l x) := by
  obtain ⟨n1, n2, n3⟩ := nm_ne nm
  have hp0 : pgs x.now (nmT nm) = [] := by unfold pgs; rw [h.tn]; rfl
  have hseq := seq_range (partB l) (nparts l) 0
  rw [← List.range_eq_range'] at hseq
  have hpw : partsW l = (List.range (nparts l)).map fun k : Nat => (((k : Nat) : Int), partB l k) := rfl
  rw [← hpw] at hseq
  have hne : partsW l ≠ [] := fun h => by have := partsW_len l; rw [h] at this; simp at this; omega
  have a := draft_res (nm := nm) (P := P) (partsW l) ok hdn h.idle (fun p hp => by
    rw [hpw] at hp
    obtain ⟨k, _, rfl⟩ := List.mem_map.1 hp
    exact partB_size l k) (by rw [hp0]; exact hseq.1) (by rw [hp0]; show (newN 0 (partsW l) : Int) ≤ _; rw [hseq.2]; exact hf)
  rw [hp0] at a
  unfold journal
  rcases a with ⟨a1, a2, a3, a4, a5, a6, a7⟩ | ⟨a1, a2, a3, a4, a5⟩
  · rw [if_neg (by rw [a1]; decide)]
    have a7 := a7 hne
    generalize (layW (nmT nm) (partsW l) x).2 = y at a2 a3 a4 a5 a6 a7
    have hyT : mGet y.now (nmT nm) = some (laidL (partsW l) []) := by
      cases hg : mGet y.now (nmT nm) with
      | none => rw [hg] at a7; cases a7
      | some L => rw [← a6]; unfold pgs; rw [hg]; rfl
    have s := sync_res (B := Idle nm P) (G := fun z => Idle nm P z ∧ mGet z.now (nmT nm) = some (laidL (partsW l) []) ∧ mGet z.safe (nmT nm) = some (laidL (partsW l) []) ∧ z.waits = []) (n := nmT nm) a2 a4 a7 (fun k => a5.act.off (ok_act a2) k) fun z okz hnow hsafe hwaits => by
      have hwn : z.waits = [] := by rw [hwaits]; exact drop_all a5.wt
      refine ⟨⟨by rw [hnow]; exact a5.jn, by rw [hsafe, get_put a2.safe, if_neg (Ne.symm n3)]; exact a5.js, by rw [hnow]; exact a5.pn, by rw [hsafe, Dk.pgs_put a2.safe, if_neg (Ne.symm n1)]; exact a5.ps, by rw [hwn]; simp, by rw [hnow]; exact a5.on, fun q l' hq => ?_⟩, by rw [hnow]; exact hyT,
        by rw [hsafe, get_put a2.safe, if_pos rfl, a6], hwn⟩
      rw [hsafe, get_put a2.safe] at hq
      by_cases e : q = nmT nm
      · exact .inr e
      · rw [if_neg e] at hq; exact a5.os q l' hq
    rcases s with ⟨b1, b2, b3, b4, b5, b6, b7, b8⟩ | ⟨b1, b2, b3, b4, b5⟩
    · rw [if_neg (by rw [b1]; decide)]
      generalize (sync y (nmT nm)).2 = z at b2 b3 b4 b5 b6 b7 b8
      have hpz : pgs z.now (nmT nm) = laidL (partsW l) [] := by unfold pgs; rw [b6]; rfl
      have hpzs : pgs z.safe (nmT nm) = laidL (partsW l) [] := by unfold pgs; rw [b7]; rfl
      have r := rename_res (B := Idle nm P) (G := Jrn nm P W (laidL (partsW l) [])) (n := nmT nm) (m := nmJ nm) b2 b4 (by rw [b6]; rfl) n3 (fun k => b5.act.off (ok_act b2) k) fun u oku hnow hsafe hwaits => by
        have hwu : u.waits = [] := by rw [hwaits, b8]; rfl
        have sd1 := srt_del b2.now (nmT nm)
        have sd2 := srt_del b2.safe (nmT nm)
        unfold moved at hnow hsafe
        refine ⟨by rw [hnow, get_put sd1, if_neg n3, get_del, if_pos rfl], by rw [hsafe, get_put sd2, if_neg n3, get_del, if_pos rfl], by rw [hnow, get_put sd1, if_pos rfl, hpz], by rw [hsafe, get_put sd2, if_pos rfl, hpzs], ?_, ?_, by rw [hwu]; simp, fun q l' hq => ?_, fun q l' hq => ?_⟩
        · rw [hnow, Dk.pgs_put sd1, if_neg (Ne.symm n2), Dk.pgs_del, if_neg (Ne.symm n1), b5.pn]; exact Btw.refl _ _
        · rw [hsafe, Dk.pgs_put sd2, if_neg (Ne.symm n2), Dk.pgs_del, if_neg (Ne.symm n1), b5.ps]; exact Btw.refl _ _
        · rw [hnow, get_put sd1, get_del] at hq
          by_cases e : q = nmJ nm
          · exact .inr e
          · rw [if_neg e] at hq
            by_cases e2 : q = nmT nm
            · rw [if_pos e2] at hq; cases hq
            · rw [if_neg e2] at hq
              exact (b5.on q l' hq).imp id fun h => absurd h e2
        · rw [hsafe, get_put sd2, get_del] at hq
          by_cases e : q = nmJ nm
          · exact .inr e
          · rw [if_neg e] at hq
            by_cases e2 : q = nmT nm
            · rw [if_pos e2] at hq; cases hq
            · rw [if_neg e2] at hq
              exact (b5.os q l' hq).imp id fun h => absurd h e2
      have hr : z.room = x.room := b3.trans a3
      rw [hr] at r
      exact r
    · rw [if_pos (by rw [b1]; decide)]
      exact .inr ⟨b1, b2, b3.trans a3, b4, b5⟩
  · rw [if_pos (by rw [a1]; decide)]
    exact .inr ⟨a1, a2, a3, a4, a5⟩
theorem clean_tot (ok : Ok x) (h : Clean nm P x) : tot x.now = P.length := by
  have h1 := tot_del ok.now nm
  have h2 : del nm x.now = [] := by
    refine fs_ext (srt_del ok.now _) List.Pairwise.nil fun q => ?_
    rw [get_del]
    by_cases e1 : q = nm
    · rw [if_pos e1]; rfl
    · rw [if_neg e1]
      cases hg : mGet x.now q with
      | none => rfl
      | some l =>
        rcases h.idle.on q l hg with e | e
        · exact absurd e e1
        · rw [e, h.tn] at hg; cases hg
  rw [h2, h.idle.pn] at h1
  have h6 : tot ([] : Fs) = 0 := rfl
  omega
theorem commit_res (ok : Ok x) (hdn : x.down = false) (h : Clean nm P x) (hs : SrtI (W.map (·.1))) (hw : wants P.length (free x) W = 0) (hW : W ≠ []) (hl : W.length ≤ 4096) :
    ∃ K, jrnl (K.flatMap bytesL) = some W ∧ P.length + newN P.length W + K.length ≤ x.room ∧ seqB P.length W = true ∧ (∀ p ∈ W, p.2.size ≤ 512) ∧
      Res x.room (Clean nm (laidL W P)) (fun y => Idle nm P y ∨ Jrn nm P W K y) (commit nm W x) := by
  obtain ⟨w1, w2, w3⟩ := wants_zero hw hW
  obtain ⟨s1, s2⟩ := seq_iff W P.length hs
  have hnew := s2 w2
  have hall := s1.1 w2
  have htot := clean_tot ok h
  have hroom := ok.room
  have hfx : free x = (x.room : Int) - P.length := by unfold free; rw [htot]
  have hK : (laidL (partsW (frameW W)) []).length = nparts (frameW W) := by rw [parts_laid]; simp
  have hpos : 0 < (frameW W).length := by
    have := frameB_len ⟨(record W).toArray⟩
    unfold frameW; omega
  refine ⟨laidL (partsW (frameW W)) [], ?_, by rw [hK]; omega, w2, w1, ?_⟩
  · rw [parts_flat hpos]
    exact jrnl_frame (fun q hq => ⟨(hall q hq).1, by have := (hall q hq).2; omega, w1 q hq⟩) hl _
  · have hmay : may P.length W = (((fresh P.length W : Nat) : Int), 0) := by
      unfold may
      rw [if_neg, if_neg]
      · intro e
        obtain ⟨q, hq, h2⟩ := List.any_eq_true.1 e
        have := hall q hq
        simp only [Bool.or_eq_true, decide_eq_true_eq] at h2
        omega
      · intro e
        obtain ⟨q, hq, h2⟩ := List.any_eq_true.1 e
        have := w1 q hq
        simp at h2; omega
    have hc : count x nm = P.length := by unfold count; rw [if_neg (by rw [hdn]; decide), h.idle.pn]
    unfold commit
    rw [if_neg (by rw [hdn]; decide), hc, hmay, if_neg (by simp [hW]), if_neg (by dsimp only; omega)]
    have j := journal_res (W := W) ok hdn h (l := frameW W) (frameW_pos W) (by omega)
    rcases j with ⟨a1, a2, a3, a4, a5⟩ | ⟨a1, a2, a3, a4, a5⟩
    · rw [if_neg (by rw [a1]; decide)]
      have l := lay_res a2 a4 w2 hW w1 a5 (by rw [hK, a3]; omega)
      rw [a3] at l
      exact l.mono (fun y _ h => h.1) fun y _ h => .inr h
    · rw [if_pos (by rw [a1]; decide)]
      exact .inr ⟨a1, a2, a3, a4, .inl a5⟩
/- ------------------------------------------------------------------ an opening -/
def opn2 (nm : Str) (a : Int × D) : Int × D :=
  if a.1 ≠ 0 then a else if has a.2 (nmJ nm) then (match jrnl ((pgs a.2.now (nmJ nm)).flatMap bytesL) with | none => (4, a.2) | some W => lay nm W a.2) else (0, a.2)
def opn (nm : Str) (x : D) : Int × D := if x.down then (8, x) else opn2 nm (if has x (nmT nm) then remove x (nmT nm) else (0, x))
theorem has_up (hdn : x.down = false) (n : Str) : has x n = (mGet x.now n).isSome := by unfold has; rw [hdn]; rfl
theorem rm_idle (ok : Ok x) (hdn : x.down = false) (h : Idle nm P x) (hT : (mGet x.now (nmT nm)).isSome = true) : Res x.room (Clean nm P) (Idle nm P) (remove x (nmT nm)) := by
  obtain ⟨n1, n2, n3⟩ := nm_ne nm
  refine remove_res (B := Idle nm P) (G := Clean nm P) (n := nmT nm) ok hdn hT (fun k => h.act.off (ok_act ok) k) fun u oku hnow hsafe hwaits => ?_
  have hwu : u.waits = [] := by rw [hwaits]; exact drop_all h.wt
  refine ⟨⟨by rw [hnow, get_del, if_neg (Ne.symm n3)]; exact h.jn, by rw [hsafe, get_del, if_neg (Ne.symm n3)]; exact h.js, by rw [hnow, Dk.pgs_del, if_neg (Ne.symm n1)]; exact h.pn, by rw [hsafe, Dk.pgs_del, if_neg (Ne.symm n1)]; exact h.ps, by rw [hwu]; simp, fun q l' hq => ?_, fun q l' hq => ?_⟩,
    by rw [hnow, get_del, if_pos rfl]⟩
  · rw [hnow, get_del] at hq
    by_cases e2 : q = nmT nm
    · exact .inr e2
    · rw [if_neg e2] at hq; exact h.on q l' hq
  · rw [hsafe, get_del] at hq
    by_cases e2 : q = nmT nm
    · exact .inr e2
    · rw [if_neg e2] at hq; exact h.os q l' hq
theorem opn_idle (ok : Ok x) (hdn : x.down = false) (h : Idle nm P x) : Res x.room (Clean nm P) (Idle nm P) (opn nm x) := by
  have last : ∀ y : D, Ok y → y.room = x.room → y.down = false → Clean nm P y → Res x.room (Clean nm P) (Idle nm P) (opn2 nm (0, y)) := fun y oky hr hdy hy => by
    unfold opn2
    rw [if_neg (by simp), has_up hdy, hy.idle.jn]
    exact .inl ⟨rfl, oky, hr, hdy, hy⟩
  unfold opn
  rw [if_neg (by rw [hdn]; decide), has_up hdn]
  cases hT : mGet x.now (nmT nm) with
  | none => exact last x ok rfl hdn ⟨h, hT⟩
  | some l =>
    dsimp only [Option.isSome_some]
    rw [if_pos rfl]
    rcases rm_idle ok hdn h (by rw [hT]; rfl) with ⟨a1, a2, a3, a4, a5⟩ | ⟨a1, a2, a3, a4, a5⟩
    · have e : remove x (nmT nm) = (0, (remove x (nmT nm)).2) := Prod.ext a1 rfl
      rw [e]
      exact last _ a2 a3 a4 a5
    · unfold opn2
      rw [if_pos (by rw [a1]; decide)]
      exact .inr ⟨a1, a2, a3, a4, a5⟩
theorem opn_jrn (ok : Ok x) (hdn : x.down = false) (hj : jrnl (K.flatMap bytesL) = some W) (hs : seqB P.length W = true) (hW : W ≠ []) (hz : ∀ p ∈ W, p.2.size ≤ 512) (h : Jrn nm P W K x) (hroom : P.length + newN P.length W + K.length ≤ x.room) :
    Res x.room (Clean nm (laidL W P)) (Jrn nm P W K) (opn nm x) := by
  unfold opn
  rw [if_neg (by rw [hdn]; decide), has_up hdn, h.tn]
  dsimp only [Option.isSome_none]
  rw [if_neg (by decide)]
  unfold opn2
  rw [if_neg (by simp)]
  dsimp only
  have hp : pgs x.now (nmJ nm) = K := by unfold pgs; rw [h.jn]; rfl
  rw [has_up hdn, h.jn, hp, hj]
  dsimp only [Option.isSome_some]
  rw [if_pos rfl]
  exact (lay_res ok hdn hs hW hz h hroom).mono (fun y _ h => h.1) fun _ _ h => h
/- ------------------------------------------------------------------ where no power goes -/
theorem quiet_write (q : Quiet x) (n : Str) (i : Int) (b : Str) : Quiet (write x n i b).2 := by
  have h5 : ¬ goes x = true := by rw [goes_quiet q]; decide
  unfold write
  split
  · exact q
  · split
    · exact q
    · split
      · exact q
      · split
        · exact q
        · exact ⟨q.down, (act_nx q).fuse⟩
theorem quiet_may (q : Quiet x) (n : Str) : Quiet (Dk.may x n).2 := by
  have h5 : ¬ goes x = true := by rw [goes_quiet q]; decide
  unfold Dk.may
  split
  · exact q
  · split
    · exact q
    · unfold ended; rw [if_neg h5]; exact act_nx q
theorem quiet_sync (q : Quiet x) (n : Str) : Quiet (sync x n).2 := by
  have h := quiet_may q n
  unfold sync
  split
  rename_i e d1 he
  rw [he] at h
  split
  · exact ⟨h.down, h.fuse⟩
  · exact h
theorem quiet_remove (q : Quiet x) (n : Str) : Quiet (remove x n).2 := by
  have h := quiet_may q n
  unfold remove
  split
  rename_i e d1 he
  rw [he] at h
  split
  · exact ⟨h.down, h.fuse⟩
  · exact h
theorem quiet_layW (n : Str) : ∀ (V : Rw) {x : D}, Quiet x → Quiet (layW n V x).2
  | [], x, q => q
  | p :: V, x, q => by
    rw [layW]
    split
    · exact quiet_write q _ _ _
    · exact quiet_layW n V (quiet_write q _ _ _)
theorem quiet_lay (q : Quiet x) (n : Str) (V : Rw) : Quiet (lay n V x).2 := by
  have h1 := quiet_layW n V q
  have h2 : Quiet (lay1 n V (layW n V x).2).2 := by unfold lay1; split; exact h1; exact quiet_sync h1 n
  unfold lay
  split
  · exact h1
  · split
    · exact h2
    · exact quiet_remove h2 _
theorem quiet_opn (q : Quiet x) (n : Str) : Quiet (opn n x).2 := by
  have key : ∀ a : Int × D, Quiet a.2 → Quiet (opn2 n a).2 := fun a qa => by
    unfold opn2
    split
    · exact qa
    · split
      · split
        · exact qa
        · exact quiet_lay qa n _
      · exact qa
  unfold opn
  split
  · exact q
  · refine key _ ?_
    split
    · exact quiet_remove q _
    · exact q
end
end Go.Pg
end

section
set_option linter.unusedSimpArgs false
set_option linter.unusedVariables false
namespace Go.Pg
open Go Go.Vc Go.Dk Go.Cd

section
variable {nm : Str} {P K : List Str} {W : Rw} {x y : D} {room : Nat}
theorem Idle.same (h : Idle nm P x) (e1 : y.now = x.now) (e2 : y.safe = x.safe) (e3 : y.waits = x.waits) : Idle nm P y :=
  ⟨by rw [e1]; exact h.jn, by rw [e2]; exact h.js, by rw [e1]; exact h.pn, by rw [e2]; exact h.ps, by rw [e3]; exact h.wt, by rw [e1]; exact h.on, by rw [e2]; exact h.os⟩
theorem Clean.same (h : Clean nm P x) (e1 : y.now = x.now) (e2 : y.safe = x.safe) (e3 : y.waits = x.waits) : Clean nm P y := ⟨h.idle.same e1 e2 e3, by rw [e1]; exact h.tn⟩
theorem Jrn.same (h : Jrn nm P W K x) (e1 : y.now = x.now) (e2 : y.safe = x.safe) (e3 : y.waits = x.waits) : Jrn nm P W K y :=
  ⟨by rw [e1]; exact h.tn, by rw [e2]; exact h.ts, by rw [e1]; exact h.jn, by rw [e2]; exact h.js, by rw [e1]; exact h.bn, by rw [e2]; exact h.bs, by rw [e3]; exact h.wt, by rw [e1]; exact h.on, by rw [e2]; exact h.os⟩
/-- what is known of a commit that was begun. -/
structure Job (P : List Str) (W : Rw) (K : List Str) (room : Nat) : Prop where
  jr : jrnl (K.flatMap bytesL) = some W
  sq : seqB P.length W = true
  ne : W ≠ []
  sz : ∀ p ∈ W, p.2.size ≤ 512
  room : P.length + newN P.length W + K.length ≤ room
  srt : SrtI (W.map (·.1))
  len : W.length ≤ 8
/-- what was, or a journal. -/
def Mid (nm : Str) (P : List Str) (W : Rw) (K : List Str) (x : D) : Prop := Idle nm P x ∨ Jrn nm P W K x
theorem Mid.same (h : Mid nm P W K x) (e1 : y.now = x.now) (e2 : y.safe = x.safe) (e3 : y.waits = x.waits) : Mid nm P W K y := h.imp (fun h => h.same e1 e2 e3) fun h => h.same e1 e2 e3
theorem opn_mid (ok : Ok x) (hdn : x.down = false) (j : Job P W K x.room) (h : Mid nm P W K x) : Res x.room (fun z => Clean nm P z ∨ Clean nm (laidL W P) z) (Mid nm P W K) (opn nm x) := by
  rcases h with h | h
  · exact (opn_idle ok hdn h).mono (fun _ _ h => .inl h) fun _ _ h => .inl h
  · exact (opn_jrn ok hdn j.jr j.sq j.ne j.sz h j.room).mono (fun _ _ h => .inr h) fun _ _ h => .inr h
theorem jrnl_nil : jrnl [] = none := by
  unfold jrnl nextF rText rUint rdU; rfl
theorem Idle.jrnl (h : Idle nm P x) : jrnl ((pgs x.now (nmJ nm)).flatMap bytesL) = none := by
  have : pgs x.now (nmJ nm) = [] := by unfold pgs; rw [h.jn]; rfl
  rw [this]; exact jrnl_nil
theorem Jrn.jrnl (h : Jrn nm P W K x) (j : Job P W K room) : jrnl ((pgs x.now (nmJ nm)).flatMap bytesL) = some W := by
  have : pgs x.now (nmJ nm) = K := by unfold pgs; rw [h.jn]; rfl
  rw [this]; exact j.jr
theorem remove_none (h : mGet x.now nm = none) : (remove x nm).2 = x := by
  unfold remove Dk.may
  by_cases hd : x.down = true
  · rw [if_pos hd]; rfl
  · rw [if_neg hd, h]; rfl
theorem mid_jr (ok : Ok x) (hdn : x.down = false) (j : Job P W K room) (h : Mid nm P W K x) :
    ∀ z, (z = x ∨ z = (remove x (nmT nm)).2) → Cd.jrnl ((pgs z.now (nmJ nm)).flatMap bytesL) = none ∨ ∃ W, Cd.jrnl ((pgs z.now (nmJ nm)).flatMap bytesL) = some W ∧ SrtI (W.map (·.1)) := by
  rcases h with h | h
  · rintro z (rfl | rfl)
    · exact .inl h.jrnl
    · cases hT : mGet x.now (nmT nm) with
      | none => rw [remove_none hT]; exact .inl h.jrnl
      | some l =>
        rcases rm_idle ok hdn h (by rw [hT]; rfl) with ⟨_, _, _, _, a5⟩ | ⟨_, _, _, _, a5⟩
        · exact .inl a5.idle.jrnl
        · exact .inl a5.jrnl
  · rintro z (rfl | rfl)
    · exact .inr ⟨W, h.jrnl j, j.srt⟩
    · rw [remove_none h.tn]; exact .inr ⟨W, h.jrnl j, j.srt⟩
theorem idle_jr (ok : Ok x) (hdn : x.down = false) (h : Idle nm P x) : ∀ z, (z = x ∨ z = (remove x (nmT nm)).2) → Cd.jrnl ((pgs z.now (nmJ nm)).flatMap bytesL) = none := by
  rintro z (rfl | rfl)
  · exact h.jrnl
  · cases hT : mGet x.now (nmT nm) with
    | none => rw [remove_none hT]; exact h.jrnl
    | some l =>
      rcases rm_idle ok hdn h (by rw [hT]; rfl) with ⟨_, _, _, _, a5⟩ | ⟨_, _, _, _, a5⟩
      · exact a5.idle.jrnl
      · exact a5.jrnl
theorem commit_job (ok : Ok x) (hdn : x.down = false) (h : Clean nm P x) (hs : SrtI (W.map (·.1))) (hw : wants P.length (free x) W = 0) (hl : W.length ≤ 8) :
    (∃ K, Job P W K x.room ∧ Res x.room (Clean nm (laidL W P)) (Mid nm P W K) (commit nm W x)) ∨ (commit nm W x = (0, x) ∧ laidL W P = P) := by
  by_cases hW : W = []
  · subst hW
    refine .inr ⟨?_, rfl⟩
    unfold commit
    rw [if_neg (by rw [hdn]; decide), if_pos (.inr rfl)]
    rfl
  · obtain ⟨K, k1, k2, k3, k4, k5⟩ := commit_res ok hdn h hs hw hW (by omega)
    exact .inl ⟨K, ⟨k1, k3, hW, k4, k2, hs, hl⟩, k5⟩
theorem lay_waits (n : Str) (W : Rw) (x : D) : (lay n W x).2.waits.length ≤ x.waits.length + W.length := by
  have h1 := layW_waits n W x
  have h2 := lay1_waits n W (layW n W x).2
  have h3 := remove_waits (lay1 n W (layW n W x).2).2 (nmJ n)
  unfold lay
  split
  · exact h1
  · split
    · omega
    · omega
theorem opn_waits (ok : Ok x) (hdn : x.down = false) (j : Job P W K room) (h : Mid nm P W K x) : (opn nm x).2.waits.length ≤ x.waits.length + 8 := by
  have key : ∀ a : Int × D, a.2.waits.length ≤ x.waits.length → (Cd.jrnl ((pgs a.2.now (nmJ nm)).flatMap bytesL) = none ∨ Cd.jrnl ((pgs a.2.now (nmJ nm)).flatMap bytesL) = some W) → (opn2 nm a).2.waits.length ≤ x.waits.length + 8 := fun a ha hj => by
    unfold opn2
    split
    · omega
    · split
      · rcases hj with e | e
        · rw [e]; dsimp only; omega
        · rw [e]; dsimp only
          have := lay_waits nm W a.2
          have := j.len
          omega
      · dsimp only; omega
  have hj : ∀ z, (z = x ∨ z = (remove x (nmT nm)).2) → Cd.jrnl ((pgs z.now (nmJ nm)).flatMap bytesL) = none ∨ Cd.jrnl ((pgs z.now (nmJ nm)).flatMap bytesL) = some W := by
    rcases h with h | h
    · rintro z (rfl | rfl)
      · exact .inl h.jrnl
      · cases hT : mGet x.now (nmT nm) with
        | none => rw [remove_none hT]; exact .inl h.jrnl
        | some l =>
          rcases rm_idle ok hdn h (by rw [hT]; rfl) with ⟨_, _, _, _, a5⟩ | ⟨_, _, _, _, a5⟩
          · exact .inl a5.idle.jrnl
          · exact .inl a5.jrnl
    · rintro z (rfl | rfl)
      · exact .inr (h.jrnl j)
      · rw [remove_none h.tn]; exact .inr (h.jrnl j)
  unfold opn
  rw [if_neg (by rw [hdn]; decide)]
  split
  · exact key _ (remove_waits _ _) (hj _ (.inr rfl))
  · exact key _ (Nat.le_refl _) (hj _ (.inl rfl))
/-- the names of a disk that is clean. -/
theorem Clean.one (ok : Ok x) (h : Clean nm P x) : (Dk.names x.now).length ≤ 1 := by
  have hn : (Dk.names x.now).Nodup := srt_nodup ok.now
  have hm : ∀ q ∈ Dk.names x.now, q = nm := fun q hq => by
    cases hg : mGet x.now q with
    | none => exact absurd hq (mGet_none.1 hg)
    | some l =>
      rcases h.idle.on q l hg with e | e
      · exact e
      · rw [e, h.tn] at hg; cases hg
  match hx : Dk.names x.now with
  | [] => simp
  | [a] => simp
  | a :: b :: l =>
    rw [hx] at hn hm
    have h1 := hm a (by simp)
    have h2 := hm b (by simp)
    simp [h1, h2] at hn
end
end Go.Pg
end
