/-
  Texts of this seat, laid one behind the other: CdS CdT PgQ. Conditions: none.
-/
import Derived.Test.YthkhaobmhheoaaaGreatZP
import Derived.Test.YthkhaobmhheoaaaGreatZP2
section
set_option linter.unusedSimpArgs false
set_option linter.unusedVariables false
set_option maxRecDepth 20000
namespace Go.Cd
open Go Go.Vc

def poly : Nat := 2197175160
def c1 (n : Nat) : Nat := if n % 2 = 1 then (n / 2) ^^^ poly else n / 2
def outB (b k n : Nat) : Bool := (n % 2 == 1) != ((b / 2 ^ k) % 2 == 1)
def r1 (b k n : Nat) : Nat := if outB b k n then (n / 2) ^^^ poly else n / 2
def rN (b : Nat) : Nat → Nat → Nat
  | 0, n => n
  | k + 1, n => r1 b k (rN b k n)
theorem xor32 {a b : Nat} (ha : a < 4294967296) (hb : b < 4294967296) : a ^^^ b < 4294967296 := Nat.xor_lt_two_pow (n := 32) ha hb
theorem w32 {n : Nat} (h : n < 4294967296) : IntKind.u32.wrap (n : Int) = (n : Int) := by simp [IntKind.wrap, IntKind.signed, IntKind.bits]; omega
theorem t32 {n : Nat} (h : n < 4294967296) : (BitVec.ofInt 32 (n : Int)).toNat = n := by simp [BitVec.toNat_ofInt]; omega
theorem bx32 {a b : Nat} (ha : a < 4294967296) (hb : b < 4294967296) : IntKind.u32.wrap ((BitVec.ofInt 32 (a : Int) ^^^ BitVec.ofInt 32 (b : Int)).toNat : Int) = ((a ^^^ b : Nat) : Int) := by
  rw [BitVec.toNat_xor, t32 ha, t32 hb, w32 (xor32 ha hb)]
theorem crc1_nat {n : Nat} (h : n < 4294967296) : crc1 (n : Int) = ((c1 n : Nat) : Int) := by
  unfold crc1 c1
  have e1 : (n : Int).fdiv (2 ^ 1) = ((n / 2 : Nat) : Int) := by rw [Int.fdiv_eq_ediv_of_nonneg _ (by decide)]; rfl
  have e2 : (BitVec.ofInt 32 (n : Int) &&& BitVec.ofInt 32 1).toNat = n % 2 := by
    rw [BitVec.toNat_and, t32 h]
    have : (BitVec.ofInt 32 1).toNat = 1 := by decide
    rw [this, Nat.and_one_is_mod]
  rw [e1, e2, w32 (n := n % 2) (by omega)]
  by_cases h1 : n % 2 = 1
  · rw [if_pos h1, h1]
    have : IntKind.u32.wrap (BitVec.ofInt 32 2197175160 &&& BitVec.ofInt 32 (IntKind.u32.wrap (0 - ((1 : Nat) : Int)))).toNat = ((poly : Nat) : Int) := by decide
    rw [this, bx32 (by omega) (by decide)]
  · have h0 : n % 2 = 0 := by omega
    rw [if_neg h1, h0]
    have : IntKind.u32.wrap (BitVec.ofInt 32 2197175160 &&& BitVec.ofInt 32 (IntKind.u32.wrap (0 - ((0 : Nat) : Int)))).toNat = ((0 : Nat) : Int) := by decide
    rw [this, bx32 (by omega) (by decide), Nat.xor_zero]
theorem c1_lt {n : Nat} (h : n < 4294967296) : c1 n < 4294967296 := by
  unfold c1; split
  · exact xor32 (by omega) (by decide)
  · omega
theorem r1_lt {b k n : Nat} (h : n < 4294967296) : r1 b k n < 4294967296 := by
  unfold r1; split
  · exact xor32 (by omega) (by decide)
  · omega
theorem rN_lt (b : Nat) : ∀ (k n : Nat), n < 4294967296 → rN b k n < 4294967296
  | 0, n, h => h
  | k + 1, n, h => r1_lt (rN_lt b k n h)
theorem c1_xor (b k n : Nat) : c1 (n ^^^ (b / 2 ^ k)) = r1 b k n ^^^ (b / 2 ^ (k + 1)) := by
  have e : b / 2 ^ (k + 1) = b / 2 ^ k / 2 := by rw [Nat.pow_succ, Nat.div_div_eq_div_mul]
  rw [e]
  unfold c1 r1 outB
  generalize b / 2 ^ k = y
  rw [Nat.xor_div_two]
  have hm : (n ^^^ y) % 2 = 1 ↔ ((n % 2 == 1) != (y % 2 == 1)) = true := by
    have h := Nat.testBit_xor n y 0
    rw [Nat.testBit_zero, Nat.testBit_zero, Nat.testBit_zero] at h
    have h1 : n % 2 = 0 ∨ n % 2 = 1 := by omega
    have h2 : y % 2 = 0 ∨ y % 2 = 1 := by omega
    rcases h1 with h1 | h1 <;> rcases h2 with h2 | h2 <;> simp [h1, h2] at h ⊢ <;> omega
  have ac : ∀ p q r : Nat, (p ^^^ q) ^^^ r = (p ^^^ r) ^^^ q := fun p q r => by rw [Nat.xor_assoc, Nat.xor_comm q r, ← Nat.xor_assoc]
  by_cases h : (n ^^^ y) % 2 = 1
  · rw [if_pos h, if_pos (hm.1 h)]; exact ac _ _ _
  · rw [if_neg h, if_neg fun h2 => h (hm.2 h2)]
def cN : Nat → Nat → Nat
  | 0, n => n
  | k + 1, n => c1 (cN k n)
theorem cN_rN (b n : Nat) : ∀ k, cN k (n ^^^ b) = rN b k n ^^^ (b / 2 ^ k)
  | 0 => by simp [cN, rN]
  | k + 1 => by rw [cN, cN_rN b n k, c1_xor]; rfl
theorem crcN_nat : ∀ (k n : Nat), n < 4294967296 → crcN k (n : Int) = ((cN k n : Nat) : Int) ∧ cN k n < 4294967296
  | 0, n, h => ⟨rfl, h⟩
  | k + 1, n, h => by
    obtain ⟨h1, h2⟩ := crcN_nat k n h
    rw [crcN_succ, h1, crc1_nat h2]
    exact ⟨rfl, c1_lt h2⟩
theorem crcB_nat {n : Nat} (h : n < 4294967296) (b : UInt8) : crcB (n : Int) b = ((rN b.toNat 8 n : Nat) : Int) := by
  have hb := b.toNat_lt
  unfold crcB
  rw [w32 (n := b.toNat) (by omega), bx32 h (by omega), (crcN_nat 8 _ (xor32 h (by omega))).1, cN_rN]
  have : b.toNat / 2 ^ 8 = 0 := by omega
  rw [this, Nat.xor_zero]
/-- the check of bytes, bit by bit. -/
def sumN (l : List UInt8) : Nat := l.foldl (fun n b => rN b.toNat 8 n) 4294967295
theorem sum_fold : ∀ (l : List UInt8) (n : Nat), n < 4294967296 → l.foldl crcB (n : Int) = ((l.foldl (fun n b => rN b.toNat 8 n) n : Nat) : Int) ∧ l.foldl (fun n b => rN b.toNat 8 n) n < 4294967296
  | [], n, h => ⟨rfl, h⟩
  | b :: l, n, h => by
    rw [List.foldl_cons, List.foldl_cons, crcB_nat h]
    exact sum_fold l _ (rN_lt _ _ _ h)
theorem crc_nat (l : List UInt8) : crc l = ((4294967295 - sumN l : Nat) : Int) ∧ sumN l < 4294967296 := by
  obtain ⟨h1, h2⟩ := sum_fold l 4294967295 (by decide)
  unfold crc
  have h1' : l.foldl crcB 4294967295 = ((sumN l : Nat) : Int) := h1
  rw [h1']
  have h2' : sumN l < 4294967296 := h2
  refine ⟨?_, h2'⟩
  have : (Int.ofNat 4294967295) = ((4294967295 : Nat) : Int) := rfl
  rw [this, bx32 (by decide) h2']
  congr 1
  have e : (4294967295 : Nat) = 2 ^ 32 - 1 := by decide
  have hb : (BitVec.allOnes 32 ^^^ BitVec.ofNat 32 (sumN l)).toNat = 2 ^ 32 - 1 - sumN l := by
    rw [BitVec.allOnes_xor, BitVec.toNat_not, BitVec.toNat_ofNat, Nat.mod_eq_of_lt h2']
  rw [BitVec.toNat_xor, BitVec.toNat_allOnes, BitVec.toNat_ofNat, Nat.mod_eq_of_lt h2'] at hb
  rw [e]; exact hb
end Go.Cd
end

section
set_option linter.unusedSimpArgs false
set_option linter.unusedVariables false
set_option maxRecDepth 20000
namespace Go.Cd
open Go Go.Vc

theorem rdU_canon : ∀ (l : List UInt8) (i a n : Nat) (r : List UInt8), rdU i a l = some (n, r) → ∃ m, n = a + m * 128 ^ i ∧ l = uintB m ++ r ∧ (0 < i → 0 < m)
  | [], i, a, n, r, h => by simp [rdU] at h
  | c :: l, i, a, n, r, h => by
    unfold rdU at h
    split at h
    · cases h
    · rename_i hc
      split at h
      · rename_i hlt
        cases h
        refine ⟨c.toNat, rfl, ?_, fun hi => ?_⟩
        · rw [uintB_small hlt]
          have : UInt8.ofNat c.toNat = c := by simp
          rw [this]; rfl
        · omega
      · rename_i hge
        obtain ⟨m, e1, e2, e3⟩ := rdU_canon l (i + 1) _ n r h
        have hm := e3 (by omega)
        have hcl : c.toNat < 256 := c.toNat_lt
        refine ⟨(c.toNat - 128) + 128 * m, ?_, ?_, fun _ => by omega⟩
        · rw [e1, Nat.pow_succ, Nat.add_mul, Nat.add_assoc]
          congr 2
          rw [Nat.mul_comm 128 m, Nat.mul_assoc, Nat.mul_comm (128 ^ i) 128]
        · rw [uintB_big (by omega)]
          have h1 : ((c.toNat - 128) + 128 * m) % 128 + 128 = c.toNat := by omega
          have h2 : ((c.toNat - 128) + 128 * m) / 128 = m := by omega
          rw [h1, h2, e2]
          have : UInt8.ofNat c.toNat = c := by simp
          rw [this]; rfl
theorem rUint_canon {l r : List UInt8} {n : Nat} (h : rUint (some l) = (n, some r)) : l = uintB n ++ r := by
  unfold rUint at h
  dsimp only at h
  cases hr : rdU 0 0 l with
  | none => rw [hr] at h; cases h
  | some p =>
    obtain ⟨m, r'⟩ := p
    rw [hr] at h
    cases h
    obtain ⟨m, e1, e2, _⟩ := rdU_canon l 0 0 _ _ hr
    rw [e1]
    simpa using e2
theorem bytesL_mk (l : List UInt8) : bytesL (⟨l.toArray⟩ : ByteArray) = l := rfl
theorem mk_sz (l : List UInt8) : (⟨l.toArray⟩ : ByteArray).size = l.length := rfl
theorem rText_canon {l r : List UInt8} {most : Int} {s : ByteArray} (h : rText most (some l) = (s, some r)) : l = textB s ++ r ∧ (s.size : Int) ≤ most := by
  unfold rText at h
  cases hu : rUint (some l) with
  | mk n o =>
    rw [hu] at h
    dsimp only at h
    split at h
    · cases h
    · rename_i hm
      cases o with
      | none => cases h
      | some q =>
        unfold rTake at h
        dsimp only at h
        split at h
        · cases h
        · rename_i hq
          cases h
          have hl := rUint_canon hu
          have hn : n ≤ q.length := by omega
          have hsz : (⟨(q.take (n : Int).toNat).toArray⟩ : ByteArray).size = n := by rw [mk_sz, List.length_take]; omega
          refine ⟨?_, by rw [hsz]; omega⟩
          unfold textB
          rw [hsz, bytesL_mk, hl, List.append_assoc]
          congr 1
          exact (List.take_append_drop _ _).symm
/-- what begins with a record begins with its bytes. -/
theorem nextF_pre {bs : List UInt8} {s : ByteArray} {m : Nat} (h : nextF bs = some (s, m)) : ∃ r, bs = frameB s ++ r := by
  unfold nextF at h
  split at h
  · cases h
  · rename_i s' r hr
    split at h
    · cases h
    · split at h
      · rename_i hlen hs
        cases h
        obtain ⟨e, _⟩ := rText_canon hr
        have hl := textB_len s
        have e1 : bs.take ((uintB s.size).length + s.size) = textB s := by rw [e, ← hl, List.take_left]
        have e2 : bs.drop ((uintB s.size).length + s.size) = r := by rw [e, ← hl, List.drop_left]
        rw [e1, e2] at hs
        refine ⟨r.drop 4, ?_⟩
        unfold frameB
        rw [← hs, e, List.append_assoc, List.take_append_drop]
      · cases h
theorem nextF_size {bs : List UInt8} {s : ByteArray} {m : Nat} (h : nextF bs = some (s, m)) (hb : bs.length < 18446744073709551616) (r : List UInt8) : nextF (bs ++ r) = some (s, (frameB s).length) := by
  obtain ⟨q, rfl⟩ := nextF_pre h
  have := nextF_len h
  rw [List.append_assoc]
  exact nextF_frame s (by omega) _
/-- a record is there just where the document sees one. -/
theorem nextF_iff {bs : List UInt8} (hb : bs.length < 18446744073709551616) : nextF bs = none ↔ ∀ s r, rText bs.length (some bs) = (s, some r) → ¬ (frameB s).length ≤ bs.length ∨ bs.take (frameB s).length ≠ frameB s := by
  constructor
  · intro h s r hr
    by_cases h1 : (frameB s).length ≤ bs.length
    · refine .inr fun h2 => ?_
      have : bs = frameB s ++ bs.drop (frameB s).length := by rw [← h2, List.length_take, Nat.min_eq_left h1, List.take_append_drop]
      have hf := frameB_len s
      have ht := textB_len s
      rw [this, nextF_frame s (by omega)] at h
      cases h
    · exact .inl h1
  · intro h
    cases hn : nextF bs with
    | none => rfl
    | some p =>
      obtain ⟨s, m⟩ := p
      obtain ⟨q, e⟩ := nextF_pre hn
      have hlen := nextF_len hn
      have hr : rText bs.length (some bs) = (s, some (sumB (crc (textB s)) ++ q)) := by
        rw [e]
        unfold frameB
        rw [List.append_assoc]
        refine rText_textB ?_ (by omega) _
        rw [← List.append_assoc]
        have : textB s ++ sumB (crc (textB s)) ++ q = bs := by rw [e]; rfl
        rw [this]; omega
      rcases h s _ hr with h1 | h1
      · exact absurd (by rw [e, List.length_append]; omega) h1
      · exact absurd (by rw [e, List.take_left]) h1
/- ------------------------------------------------------------------ the document's way -/
/-- how many bytes lead on. -/
def lead : List UInt8 → Nat
  | [] => 0
  | c :: l => if c.toNat < 128 then 0 else lead l + 1
def hv : List UInt8 → Nat
  | [] => 0
  | c :: l => c.toNat % 128 + 128 * hv l
theorem lead_le : ∀ l : List UInt8, lead l ≤ l.length
  | [] => Nat.le_refl _
  | c :: l => by
    have := lead_le l
    unfold lead; split
    · omega
    · simp only [List.length_cons]; omega
theorem lead_ge : ∀ (l : List UInt8) (k : Nat), k < lead l → 128 ≤ (l.getD k 0).toNat
  | [], k, h => by simp [lead] at h
  | c :: l, k, h => by
    unfold lead at h
    split at h
    · omega
    · cases k with
      | zero => simp only [List.getD_cons_zero]; omega
      | succ k => rw [List.getD_cons_succ]; exact lead_ge l k (by omega)
theorem lead_lt : ∀ (l : List UInt8), lead l < l.length → (l.getD (lead l) 0).toNat < 128
  | [], h => by simp [lead] at h
  | c :: l, h => by
    unfold lead at h ⊢
    split
    · simpa using ‹_›
    · rename_i hc
      rw [if_neg hc] at h
      rw [List.getD_cons_succ]
      exact lead_lt l (by simp only [List.length_cons] at h; omega)
theorem rdU_lead : ∀ (l : List UInt8) (i a : Nat), i ≤ 9 → rdU i a l =
    if l.length ≤ lead l ∨ 9 < i + lead l ∨ (0 < i + lead l ∧ (l.getD (lead l) 0).toNat = 0) ∨ (i + lead l = 9 ∧ 1 < (l.getD (lead l) 0).toNat) then none else some (a + 128 ^ i * hv (l.take (lead l + 1)), l.drop (lead l + 1))
  | [], i, a, hi => by simp [rdU, lead]
  | c :: l, i, a, hi => by
    unfold rdU
    by_cases hc : c.toNat < 128
    · have e : lead (c :: l) = 0 := by unfold lead; rw [if_pos hc]
      rw [e]
      simp only [List.length_cons, Nat.add_zero, List.getD_cons_zero, Nat.zero_add, List.take_succ_cons, List.take_zero, List.drop_succ_cons, List.drop_zero]
      by_cases h1 : (i = 9 ∧ 1 < c.toNat) ∨ (0 < i ∧ c.toNat = 0)
      · rw [if_pos h1, if_pos (by omega)]
      · rw [if_neg h1, if_pos hc, if_neg (by omega)]
        congr 2
        simp only [hv]
        rw [Nat.mod_eq_of_lt hc, Nat.mul_comm]; simp
    · have e : lead (c :: l) = lead l + 1 := by rw [lead, if_neg hc]
      rw [e]
      simp only [List.length_cons, List.getD_cons_succ, List.take_succ_cons, List.drop_succ_cons]
      by_cases h9 : i = 9
      · rw [if_pos (by omega), if_pos (by omega)]
      · rw [if_neg (by omega), if_neg hc, rdU_lead l (i + 1) _ (by omega)]
        have e2 : ∀ x, i + 1 + x = i + (x + 1) := fun x => by omega
        simp only [e2]
        by_cases hb : l.length + 1 ≤ lead l + 1 ∨ 9 < i + (lead l + 1) ∨ (0 < i + (lead l + 1) ∧ (l.getD (lead l) 0).toNat = 0) ∨ (i + (lead l + 1) = 9 ∧ 1 < (l.getD (lead l) 0).toNat)
        · rw [if_pos hb, if_pos (by omega)]
        · rw [if_neg hb, if_neg (by omega)]
          congr 2
          simp only [hv]
          have hcl : c.toNat < 256 := c.toNat_lt
          have : c.toNat % 128 = c.toNat - 128 := by omega
          rw [this, Nat.pow_succ, Nat.mul_add, Nat.mul_comm (128 ^ i) (c.toNat - 128), ← Nat.mul_assoc, Nat.add_assoc]
theorem rUint_lead (l : List UInt8) : rUint (some l) = if l.length ≤ lead l ∨ 9 < lead l ∨ (0 < lead l ∧ (l.getD (lead l) 0).toNat = 0) ∨ (lead l = 9 ∧ 1 < (l.getD (lead l) 0).toNat) then (0, none) else (hv (l.take (lead l + 1)), some (l.drop (lead l + 1))) := by
  unfold rUint
  dsimp only
  rw [rdU_lead l 0 0 (by omega)]
  simp only [Nat.zero_add, Nat.pow_zero, Nat.one_mul]
  by_cases hb : l.length ≤ lead l ∨ 9 < lead l ∨ (0 < lead l ∧ (l.getD (lead l) 0).toNat = 0) ∨ (lead l = 9 ∧ 1 < (l.getD (lead l) 0).toNat)
  · rw [if_pos hb, if_pos hb]
  · rw [if_neg hb, if_neg hb]
theorem hv_lt : ∀ (l : List UInt8), hv l < 128 ^ l.length
  | [] => by simp [hv]
  | c :: l => by
    have := hv_lt l
    simp only [hv, List.length_cons, Nat.pow_succ]
    omega
theorem hv_snoc : ∀ (l : List UInt8) (c : UInt8), hv (l ++ [c]) = hv l + 128 ^ l.length * (c.toNat % 128)
  | [], c => by simp [hv]
  | d :: l, c => by
    simp only [List.cons_append, hv, hv_snoc l c, List.length_cons, Nat.pow_succ]
    rw [Nat.mul_add, Nat.add_assoc, ← Nat.mul_assoc, Nat.mul_comm 128 (128 ^ l.length)]
theorem hv_drop (l : List UInt8) (k : Nat) (h : k < l.length) : hv (l.drop k) = (l.getD k 0).toNat % 128 + 128 * hv (l.drop (k + 1)) := by
  rw [List.drop_eq_getElem_cons h]
  simp only [hv]
  simp [List.getD, List.getElem?_eq_getElem h]
end Go.Cd
end

section
set_option linter.unusedSimpArgs false
set_option linter.unusedVariables false
namespace Go.Pg
open Go Go.Vc Go.Dk Go.Cd

theorem setP_end (l : List Str) (p : Str) : setP l l.length p = l ++ [p] := by
  unfold setP
  have e : l.length + 1 - l.length = 1 := by omega
  rw [e]
  simp
/-- so many pages of a journal, as many of a draft. -/
structure Wr (nm : Str) (l : List UInt8) (i : Nat) (x : D) : Prop where
  q : Quiet x
  room : x.room = 100
  pj : pgs x.now (nmJ nm) = (List.range i).map fun k => pad (partB l k)
  pt : (pgs x.now (nmT nm)).length = i
  hj : i ≠ 0 → (mGet x.now (nmJ nm)).isSome = true
  ht : i ≠ 0 → (mGet x.now (nmT nm)).isSome = true
  other : ∀ q, q ≠ nmJ nm → q ≠ nmT nm → mGet x.now q = none
  tot : tot x.now = 2 * i
  waits : x.waits.length ≤ 2 * i
section
variable {nm : Str} {l : List UInt8} {i : Nat} {x y : D} {b : Str} {W : Rw}
theorem Wr.new (nm : Str) (l : List UInt8) : Wr nm l 0 (Dk.new 100) :=
  ⟨⟨rfl, rfl⟩, rfl, rfl, rfl, fun h => absurd rfl h, fun h => absurd rfl h, fun _ _ _ => rfl, rfl, Nat.le_refl _⟩
theorem Wr.step (ok : Ok x) (w : Wr nm l i x) (hi : i ≤ 20) (hb : b.size ≤ 512) (ok1 : Ok (write x (nmJ nm) i (partB l i)).2) :
    Wr nm l (i + 1) (write (write x (nmJ nm) i (partB l i)).2 (nmT nm) i b).2 := by
  obtain ⟨n1, n2, n3⟩ := nm_ne nm
  have hl : (pgs x.now (nmJ nm)).length = i := by rw [w.pj]; simp
  have hf : free x = 100 - 2 * (i : Int) := by unfold free; rw [w.room, w.tot]; omega
  obtain ⟨_, a⟩ := write_nx w.q (n := nmJ nm) (i := (i : Int)) (b := partB l i) (partB_size l i) ⟨by omega, by omega⟩ (fun _ => by omega)
  have w1 := write_waits x (nmJ nm) i (partB l i)
  have anow := a.now
  rw [Int.toNat_natCast] at anow
  have e1 : setP (pgs x.now (nmJ nm)) i (pad (partB l i)) = (List.range (i + 1)).map fun k => pad (partB l k) := by
    have := setP_end (pgs x.now (nmJ nm)) (pad (partB l i))
    rw [hl] at this
    rw [this, w.pj, List.range_succ, List.map_append]; rfl
  rw [e1] at anow
  have aroom := a.room
  have aq := a.q
  generalize (write x (nmJ nm) i (partB l i)).2 = y at anow ok1 w1 aroom aq
  have ty := tot_put ok.now (nmJ nm) ((List.range (i + 1)).map fun k => pad (partB l k))
  rw [← anow, hl, w.tot] at ty
  simp only [List.length_map, List.length_range] at ty
  have hpt : pgs y.now (nmT nm) = pgs x.now (nmT nm) := by rw [anow]; unfold pgs; rw [get_put ok.now, if_neg n3]
  have hf2 : free y = 100 - (2 * (i : Int) + 1) := by unfold free; rw [aroom, w.room]; omega
  obtain ⟨_, c⟩ := write_nx aq (n := nmT nm) (i := (i : Int)) (b := b) hb ⟨by omega, by rw [hpt, w.pt]; omega⟩ (fun _ => by omega)
  have w2 := write_waits y (nmT nm) i b
  have cnow := c.now
  rw [Int.toNat_natCast, hpt] at cnow
  have hlt : (setP (pgs x.now (nmT nm)) i (pad b)).length = i + 1 := by rw [setP_len, w.pt]; omega
  have tz := tot_put ok1.now (nmT nm) (setP (pgs x.now (nmT nm)) i (pad b))
  rw [← cnow, hpt, w.pt, hlt] at tz
  refine ⟨c.q, c.room.trans (aroom.trans w.room), ?_, ?_, fun _ => ?_, fun _ => ?_, fun q h1 h2 => ?_, by omega, by have := w.waits; omega⟩
  · rw [cnow]; unfold pgs; rw [get_put ok1.now, if_neg (Ne.symm n3), anow, get_put ok.now, if_pos rfl]; rfl
  · rw [cnow]; unfold pgs; rw [get_put ok1.now, if_pos rfl]; exact hlt
  · rw [cnow, get_put ok1.now, if_neg (Ne.symm n3), anow, get_put ok.now, if_pos rfl]; rfl
  · rw [cnow, get_put ok1.now, if_pos rfl]; rfl
  · rw [cnow, get_put ok1.now, if_neg h2, anow, get_put ok.now, if_neg h1]; exact w.other q h1 h2
/-- what its pages hold. -/
theorem Wr.flat (w : Wr nm l i x) (h1 : 512 * (i - 1) ≤ l.length) (h2 : l.length ≤ 512 * i) : (pgs x.now (nmJ nm)).flatMap bytesL = l ++ List.replicate (512 * i - l.length) 0 := by
  rw [w.pj]
  have := flat_blks l (512 * i - l.length) i 0 (fun _ => by omega) (by omega)
  rw [← List.range_eq_range'] at this
  rw [this, Nat.mul_zero, List.drop_zero, List.take_of_length_le]
  rw [List.length_append, List.length_replicate]; omega
theorem Wr.rm (ok : Ok x) (w : Wr nm l i x) (hi : i ≠ 0) : (remove x (nmT nm)).1 = 0 ∧ Quiet (remove x (nmT nm)).2 ∧ (remove x (nmT nm)).2.now = del (nmT nm) x.now ∧ pgs (remove x (nmT nm)).2.now (nmJ nm) = pgs x.now (nmJ nm) ∧ (remove x (nmT nm)).2.room = 100 := by
  obtain ⟨n1, n2, n3⟩ := nm_ne nm
  obtain ⟨a1, a2⟩ := remove_nx w.q (w.ht hi)
  exact ⟨a1, a2.q, a2.now, by rw [a2.now]; unfold pgs; rw [get_del, if_neg (Ne.symm n3)], a2.room.trans w.room⟩
theorem Wr.opn (ok : Ok x) (w : Wr nm l i x) (hi : i ≠ 0) : Pg.opn nm x = match jrnl ((pgs x.now (nmJ nm)).flatMap bytesL) with | none => (4, (remove x (nmT nm)).2) | some W => lay nm W (remove x (nmT nm)).2 := by
  obtain ⟨n1, n2, n3⟩ := nm_ne nm
  obtain ⟨a1, a2, a3, a4, _⟩ := w.rm ok hi
  have hh : has x (nmT nm) = true := by unfold has; rw [w.q.down, w.ht hi]; rfl
  have hj : has (remove x (nmT nm)).2 (nmJ nm) = true := by unfold has; rw [a2.down, a3, get_del, if_neg (Ne.symm n3), w.hj hi]; rfl
  unfold Pg.opn
  rw [if_neg (by rw [w.q.down]; decide), if_pos hh]
  unfold opn2
  rw [if_neg (by rw [a1]; decide), if_pos hj, a4]
  rfl
theorem Wr.good (ok : Ok x) (oky : Ok (remove x (nmT nm)).2) (okz : Ok (Pg.opn nm x).2) (w : Wr nm l i x) (hi : i ≠ 0) (hi2 : i ≤ 20) (hj : jrnl ((pgs x.now (nmJ nm)).flatMap bytesL) = some W) (hW : W ≠ []) (hz : ∀ p ∈ W, p.2.size ≤ 512) (hs : seqB 0 W = true) (hl : newN 0 W ≤ 6) :
    (Pg.opn nm x).1 = 0 ∧ (Pg.opn nm x).2.down = false ∧ pgs (Pg.opn nm x).2.now nm = laidL W [] ∧ (Dk.names (Pg.opn nm x).2.now).length = 1 ∧ ∀ q ∈ Dk.names (Pg.opn nm x).2.now, q = nm := by
  obtain ⟨n1, n2, n3⟩ := nm_ne nm
  obtain ⟨a1, a2, a3, a4, a5⟩ := w.rm ok hi
  have e := w.opn ok hi
  rw [hj] at e
  dsimp only at e
  have hnone : mGet (remove x (nmT nm)).2.now nm = none := by rw [a3, get_del, if_neg (Ne.symm n1)]; exact w.other nm (Ne.symm n2) (Ne.symm n1)
  have hp : pgs (remove x (nmT nm)).2.now nm = [] := by unfold pgs; rw [hnone]; rfl
  have hj2 : (mGet (remove x (nmT nm)).2.now (nmJ nm)).isSome = true := by rw [a3, get_del, if_neg (Ne.symm n3)]; exact w.hj hi
  have ht := tot_del ok.now (nmT nm)
  rw [← a3, w.tot, w.pt] at ht
  have hf : free (remove x (nmT nm)).2 = 100 - (i : Int) := by unfold free; rw [a5]; omega
  obtain ⟨l1, l2⟩ := lay_nx oky.now a2 hW hz (by rw [hp]; exact hs) (by rw [hp, hf]; show ((newN 0 W : Nat) : Int) ≤ _; omega) hj2
  rw [← e, hp] at l2
  rw [← e] at l1
  have hg : mGet (Pg.opn nm x).2.now nm = some (laidL W []) := by rw [l2.now, get_del, if_neg (Ne.symm n2), get_put oky.now, if_pos rfl]
  refine ⟨l1, l2.q.down, by unfold pgs; rw [hg]; rfl, ?_⟩
  have hn : (Dk.names (Pg.opn nm x).2.now).Nodup := srt_nodup okz.now
  have hm : ∀ q ∈ Dk.names (Pg.opn nm x).2.now, q = nm := fun q hq => by
    by_cases hqn : q = nm
    · exact hqn
    · have hqj : mGet (Pg.opn nm x).2.now q = none := by
        rw [l2.now, get_del]
        by_cases h1 : q = nmJ nm
        · rw [if_pos h1]
        · rw [if_neg h1, get_put oky.now, if_neg hqn, a3, get_del]
          by_cases h2 : q = nmT nm
          · rw [if_pos h2]
          · rw [if_neg h2]; exact w.other q h1 h2
      exact absurd hq (mGet_none.1 hqj)
  have hin : nm ∈ Dk.names (Pg.opn nm x).2.now := by
    by_cases h : nm ∈ Dk.names (Pg.opn nm x).2.now
    · exact h
    · rw [mGet_none.2 h] at hg; cases hg
  refine ⟨?_, hm⟩
  match hx : Dk.names (Pg.opn nm x).2.now with
  | [] => rw [hx] at hin; cases hin
  | [a] => rfl
  | a :: c :: l =>
    rw [hx] at hn hm
    have h1 := hm a (by simp)
    have h2 := hm c (by simp)
    simp [h1, h2] at hn
end
/-- pages by their numbers. -/
def numd (l : List Str) : Rw := (List.range l.length).map fun k : Nat => ((k : Int), l.getD k ⟨#[]⟩)
theorem numd_laid (l : List Str) : laidL (numd l) [] = l.map pad := by
  have hseq := seq_range (fun k => l.getD k ⟨#[]⟩) l.length 0
  rw [← List.range_eq_range'] at hseq
  refine List.ext_getElem? fun k => ?_
  rw [laidL_get (numd l) [] k hseq.1]
  have := lastR_range (fun k => l.getD k ⟨#[]⟩) l.length 0 k
  rw [← List.range_eq_range'] at this
  unfold numd
  rw [this, List.getElem?_map]
  by_cases h : k < l.length
  · rw [if_pos (by omega), List.getElem?_eq_getElem h]
    simp [List.getD, List.getElem?_eq_getElem h]
  · have e : l[k]? = none := List.getElem?_eq_none (by omega)
    rw [if_neg (by omega), e]; rfl
theorem numd_seq (l : List Str) : seqB 0 (numd l) = true ∧ newN 0 (numd l) = l.length := by
  have hseq := seq_range (fun k => l.getD k ⟨#[]⟩) l.length 0
  rwa [← List.range_eq_range'] at hseq
theorem numd_len (l : List Str) : (numd l).length = l.length := by simp [numd]
theorem numd_mem {l : List Str} {q : Int × Str} (h : q ∈ numd l) : 0 ≤ q.1 ∧ q.1 < l.length ∧ q.2 ∈ l := by
  unfold numd at h
  obtain ⟨k, hk, rfl⟩ := List.mem_map.1 h
  have hk := List.mem_range.1 hk
  refine ⟨by simp, by simpa using hk, ?_⟩
  simp [List.getD, List.getElem?_eq_getElem hk]
theorem numd_srt (l : List Str) : SrtI ((numd l).map (·.1)) := by
  unfold numd
  rw [List.map_map]
  refine List.pairwise_map.2 ?_
  refine (List.pairwise_lt_range (n := l.length)).imp fun h => ?_
  simpa using h
end Go.Pg
end
