/-
  Texts of this seat, laid one behind the other: DkA DkB DkC0 DkC3 CdA PgB PgE. Conditions: none.
-/
import Derived.Test.YthkhaobmhheoaaaGreatZV
import Derived.Laws.Bits64b
section
set_option linter.unusedSimpArgs false
set_option linter.unusedVariables false
namespace Go.Dk
open Go Go.Vc

abbrev Str := ByteArray
/- strings are ordered -/
theorem bl_irrefl : ∀ l : List UInt8, Op.bytesLess l l = false
  | [] => rfl
  | a :: l => by simp [Op.bytesLess, bl_irrefl l]
theorem bl_trans : ∀ x y z : List UInt8, Op.bytesLess x y = true → Op.bytesLess y z = true → Op.bytesLess x z = true
  | _, [], _, h, _ => by simp [Op.bytesLess] at h
  | _, _ :: _, [], _, h => by simp [Op.bytesLess] at h
  | [], _ :: _, _ :: _, _, _ => rfl
  | a :: x, b :: y, c :: z, h1, h2 => by
    simp only [Op.bytesLess, Bool.or_eq_true, Bool.and_eq_true, decide_eq_true_eq, beq_iff_eq] at *
    rcases h1 with h1 | ⟨rfl, h1⟩
    · rcases h2 with h2 | ⟨rfl, h2⟩
      · exact .inl (UInt8.lt_trans h1 h2)
      · exact .inl h1
    · rcases h2 with h2 | ⟨rfl, h2⟩
      · exact .inl h2
      · exact .inr ⟨rfl, bl_trans x y z h1 h2⟩
theorem bl_total : ∀ x y : List UInt8, Op.bytesLess x y = false → Op.bytesLess y x = false → x = y
  | [], [], _, _ => rfl
  | [], _ :: _, h, _ => by simp [Op.bytesLess] at h
  | _ :: _, [], _, h => by simp [Op.bytesLess] at h
  | a :: x, b :: y, h1, h2 => by
    simp only [Op.bytesLess, Bool.or_eq_false_iff, Bool.and_eq_false_iff, decide_eq_false_iff_not, beq_eq_false_iff_ne] at *
    have e : a = b := UInt8.le_antisymm (UInt8.not_lt.1 h2.1) (UInt8.not_lt.1 h1.1)
    subst e
    rw [bl_total x y (h1.2.resolve_left (by simp)) (h2.2.resolve_left (by simp))]
abbrev lt (a b : Str) : Bool := Op.bytesLess a.toList b.toList
theorem str_ext {a b : Str} (h : a.toList = b.toList) : a = b := by
  rw [ByteArray.toList_eq, ByteArray.toList_eq] at h
  cases a with | mk x => cases b with | mk y => congr 1; exact Array.toList_inj.1 h
theorem lt_irrefl (a : Str) : lt a a = false := bl_irrefl _
theorem lt_trans {a b c : Str} (h : lt a b = true) (k : lt b c = true) : lt a c = true := bl_trans _ _ _ h k
theorem lt_total {a b : Str} (h : lt a b = false) (k : lt b a = false) : a = b := str_ext (bl_total _ _ h k)
theorem lt_asymm {a b : Str} (h : lt a b = true) : lt b a = false := by
  cases k : lt b a with
  | false => rfl
  | true => have := lt_trans h k; rw [lt_irrefl] at this; cases this
theorem eq_beq {a b : Str} : (a.toList == b.toList) = true ↔ a = b := ⟨fun h => str_ext (by simpa using h), fun h => by subst h; simp⟩
theorem beq_dec' (a b : Str) : (a.toList == b.toList) = decide (a = b) := by
  by_cases h : a = b
  · subst h; simp
  · rw [decide_eq_false h]; cases k : a.toList == b.toList with | false => rfl | true => exact absurd (eq_beq.1 k) h
theorem ne_of_lt {a b : Str} (h : lt a b = true) : a ≠ b := fun e => by subst e; rw [lt_irrefl] at h; cases h
abbrev Srt (l : List Str) : Prop := l.Pairwise fun a b => lt a b = true
theorem srt_nodup {l : List Str} (h : Srt l) : l.Nodup := h.imp fun h => ne_of_lt h
theorem srt_ext : ∀ {l m : List Str}, Srt l → Srt m → (∀ k, k ∈ l ↔ k ∈ m) → l = m
  | [], [], _, _, _ => rfl
  | [], b :: m, _, _, h => by have := (h b).2 List.mem_cons_self; cases this
  | a :: l, [], _, _, h => by have := (h a).1 List.mem_cons_self; cases this
  | a :: l, b :: m, hl, hm, h => by
    have pl := List.pairwise_cons.1 hl
    have pm := List.pairwise_cons.1 hm
    have e : a = b := by
      rcases List.mem_cons.1 ((h a).1 List.mem_cons_self) with e | h1
      · exact e
      rcases List.mem_cons.1 ((h b).2 List.mem_cons_self) with e | h2
      · exact e.symm
      · have := lt_trans (pl.1 _ h2) (pm.1 _ h1); rw [lt_irrefl] at this; cases this
    subst e
    rw [srt_ext pl.2 pm.2 fun k => ?_]
    constructor
    · intro hk
      rcases List.mem_cons.1 ((h k).1 (List.mem_cons_of_mem _ hk)) with e | h1
      · subst e; have := pl.1 _ hk; rw [lt_irrefl] at this; cases this
      · exact h1
    · intro hk
      rcases List.mem_cons.1 ((h k).2 (List.mem_cons_of_mem _ hk)) with e | h1
      · subst e; have := pm.1 _ hk; rw [lt_irrefl] at this; cases this
      · exact h1

/- ------------------------------------------------------------------ files -/

abbrev Fs := List (Str × List Str)
abbrev names (F : Fs) : List Str := mKeys F
def SrtF (F : Fs) : Prop := Srt (names F)

/-- one file is this, in its place by rising names. -/
def put (n : Str) (l : List Str) : Fs → Fs
  | [] => [(n, l)]
  | p :: F => if p.1 = n then (n, l) :: F else if lt n p.1 then (n, l) :: p :: F else p :: put n l F
def del (n : Str) (F : Fs) : Fs := F.filter fun p => decide (p.1 ≠ n)
def tot (F : Fs) : Nat := (F.map fun p => p.2.length).sum
def pgs (F : Fs) (n : Str) : List Str := (mGet F n).getD []

theorem names_put (n : Str) (l : List Str) : ∀ (F : Fs) (q : Str), q ∈ names (put n l F) ↔ q = n ∨ q ∈ names F
  | [], q => by simp [put, mKeys]
  | p :: F, q => by
    unfold put
    by_cases h : p.1 = n
    · subst h; simp [mKeys]
    · rw [if_neg h]
      by_cases h2 : lt n p.1 = true
      · rw [if_pos h2]; simp [mKeys]
      · rw [if_neg h2]
        have ih := names_put n l F q
        simp only [mKeys, List.map_cons, List.mem_cons] at ih ⊢
        rw [ih]
        exact ⟨fun h => h.elim (fun h => .inr (.inl h)) (fun h => h.elim .inl (fun h => .inr (.inr h))), fun h => h.elim (fun h => .inr (.inl h)) (fun h => h.elim .inl (fun h => .inr (.inr h)))⟩
theorem srt_put {F : Fs} (h : SrtF F) (n : Str) (l : List Str) : SrtF (put n l F) := by
  induction F with
  | nil => simp [put, SrtF, mKeys]
  | cons p F ih =>
    have hp := List.pairwise_cons.1 h
    unfold put
    by_cases h1 : p.1 = n
    · subst h1; rw [if_pos rfl]; exact h
    · rw [if_neg h1]
      by_cases h2 : lt n p.1 = true
      · rw [if_pos h2]
        refine List.pairwise_cons.2 ⟨fun k hk => ?_, h⟩
        rcases List.mem_cons.1 hk with rfl | hk
        · exact h2
        · exact lt_trans h2 (hp.1 k hk)
      · rw [if_neg h2]
        refine List.pairwise_cons.2 ⟨fun k hk => ?_, ih hp.2⟩
        rcases (names_put n l F k).1 hk with rfl | hk
        · cases h3 : lt p.1 k with
          | true => rfl
          | false => exact absurd (lt_total h3 (by simpa using h2)) h1
        · exact hp.1 k hk
theorem get_none_of_lt {F : Fs} {n : Str} (h : ∀ q ∈ names F, lt n q = true) : mGet F n = none :=
  mGet_none.2 fun hm => by have := h n hm; rw [lt_irrefl] at this; cases this
theorem get_put {F : Fs} (h : SrtF F) (n : Str) (l : List Str) (q : Str) : mGet (put n l F) q = if q = n then some l else mGet F q := by
  induction F with
  | nil => by_cases e : q = n <;> simp [put, mGet, e]; exact fun h => e h.symm
  | cons p F ih =>
    have hp := List.pairwise_cons.1 h
    unfold put
    by_cases h1 : p.1 = n
    · subst h1; rw [if_pos rfl]; by_cases e : q = p.1
      · subst e; simp [mGet]
      · simp [mGet, e, Ne.symm e]
    · rw [if_neg h1]
      by_cases h2 : lt n p.1 = true
      · rw [if_pos h2]
        by_cases e : q = n
        · subst e; simp [mGet]
        · simp [mGet, e, Ne.symm e]
      · rw [if_neg h2]
        by_cases e : p.1 = q
        · subst e; simp [mGet, h1]
        · rw [mGet, if_neg e, ih hp.2, mGet, if_neg e]
theorem names_del (n : Str) (F : Fs) (q : Str) : q ∈ names (del n F) ↔ q ≠ n ∧ q ∈ names F := by
  simp only [mKeys, del, List.mem_map, List.mem_filter, decide_eq_true_eq]
  constructor
  · rintro ⟨p, ⟨h1, h2⟩, rfl⟩; exact ⟨h2, p, h1, rfl⟩
  · rintro ⟨h1, p, h2, rfl⟩; exact ⟨p, ⟨h2, h1⟩, rfl⟩
theorem srt_del {F : Fs} (h : SrtF F) (n : Str) : SrtF (del n F) := List.Pairwise.sublist (List.filter_sublist.map _) h
theorem get_del {F : Fs} (n q : Str) : mGet (del n F) q = if q = n then none else mGet F q := by
  induction F with
  | nil => simp [del, mGet]
  | cons p F ih =>
    simp only [del, List.filter_cons] at ih ⊢
    by_cases h : p.1 = n
    · simp only [h, ne_eq, not_true_eq_false, decide_false, Bool.false_eq_true, if_false, ih]
      by_cases e : q = n
      · simp [e]
      · simp [e, mGet, h, Ne.symm e]
    · simp only [h, ne_eq, not_false_eq_true, decide_true, if_true, mGet, ih]
      by_cases e : p.1 = q
      · subst e; simp [h]
      · simp [e]

/-- two lists by rising names that answer the same are the same. -/
theorem fs_ext : ∀ {F G : Fs}, SrtF F → SrtF G → (∀ q, mGet F q = mGet G q) → F = G
  | [], [], _, _, _ => rfl
  | [], b :: G, _, _, h => by have := h b.1; simp [mGet] at this
  | a :: F, [], _, _, h => by have := h a.1; simp [mGet] at this
  | a :: F, b :: G, hF, hG, h => by
    have pF := List.pairwise_cons.1 hF
    have pG := List.pairwise_cons.1 hG
    have e : names (a :: F) = names (b :: G) := srt_ext hF hG fun k => by
      rw [← Classical.not_not (a := k ∈ names (a :: F)), ← Classical.not_not (a := k ∈ names (b :: G)), ← mGet_none, ← mGet_none, h k]
    have e1 : a.1 = b.1 := by simp [mKeys] at e; exact e.1
    have e2 : a.2 = b.2 := by have := h a.1; simp [mGet, e1] at this; exact this
    have : a = b := Prod.ext e1 e2
    subst this
    rw [fs_ext pF.2 pG.2 fun q => ?_]
    by_cases hq : a.1 = q
    · subst hq
      rw [get_none_of_lt (F := F) (fun q hq => pF.1 q hq), get_none_of_lt (F := G) (fun q hq => pG.1 q hq)]
    · have := h q; simpa [mGet, hq] using this

theorem tot_put {F : Fs} (h : SrtF F) (n : Str) (l : List Str) : tot (put n l F) + (pgs F n).length = tot F + l.length := by
  induction F with
  | nil => simp [put, tot, pgs, mGet]
  | cons p F ih =>
    have hp := List.pairwise_cons.1 h
    unfold put
    by_cases h1 : p.1 = n
    · subst h1; rw [if_pos rfl]; simp [tot, pgs, mGet]; omega
    · rw [if_neg h1]
      by_cases h2 : lt n p.1 = true
      · rw [if_pos h2]
        have : mGet F n = none := get_none_of_lt fun q hq => lt_trans h2 (hp.1 q hq)
        simp [tot, pgs, mGet, h1, this]; omega
      · rw [if_neg h2]
        have := ih hp.2
        simp only [tot, pgs, mGet, if_neg h1, List.map_cons, List.sum_cons] at this ⊢
        omega
theorem tot_del {F : Fs} (h : SrtF F) (n : Str) : tot (del n F) + (pgs F n).length = tot F := by
  induction F with
  | nil => simp [del, tot, pgs, mGet]
  | cons p F ih =>
    have hp := List.pairwise_cons.1 h
    have := ih hp.2
    by_cases h1 : p.1 = n
    · have hg : mGet F n = none := get_none_of_lt fun q hq => h1 ▸ hp.1 q hq
      simp [tot, pgs, hg, del] at this
      simp [tot, pgs, mGet, h1, del]
      omega
    · have e : mGet (p :: F) n = mGet F n := by rw [mGet, if_neg h1]
      simp only [tot, pgs, e, del, List.filter_cons, ne_eq, h1, not_false_eq_true, decide_true, if_true, List.map_cons, List.sum_cons] at this ⊢
      omega

/- ------------------------------------------------------------------ the disk -/

def zp : Str := ⟨Array.replicate 512 0⟩
/-- a page's bytes, filled up by noughts. -/
def pad (b : Str) : Str := ⟨b.data ++ Array.replicate (512 - b.size) 0⟩
/-- a file with a page, and noughts ahead of it. -/
def setP (l : List Str) (i : Nat) (p : Str) : List Str := (l ++ List.replicate (i + 1 - l.length) zp).set i p

structure Wt where
  n : Str
  i : Nat
  p : Str

structure D where
  now : Fs
  safe : Fs
  waits : List Wt
  room : Nat
  down : Bool
  acts : Int
  fuse : Nat
  keep : Int

def free (d : D) : Int := d.room - tot d.now
/-- is the i-th write kept? -/
def kept (keep : Int) (i : Nat) : Bool := (keep.toNat >>> (i % 64)) % 2 == 1
def app1 (F : Fs) (w : Wt) : Fs := put w.n (setP (pgs F w.n) w.i w.p) F
def keepW (keep : Int) : Nat → List Wt → Fs → Fs
  | _, [], F => F
  | i, w :: ws, F => keepW keep (i + 1) ws (if kept keep i then app1 F w else F)
def addN (F : Fs) (n : Str) : Fs := match mGet F n with | some _ => F | none => put n [] F
def offS (keep : Int) (d : D) : Fs := (names d.now).foldl addN (keepW keep 0 d.waits d.safe)
def off (keep : Int) (d : D) : D := if d.down then d else { d with now := offS keep d, safe := offS keep d, waits := [], down := true, fuse := 0 }
def act (d : D) : D := { d with acts := IntKind.i64.wrap (d.acts + 1), fuse := d.fuse - 1 }
def goes (d : D) : Bool := d.fuse == 1
/-- an act: the power may go in it. -/
def ended (d : D) : Int × D := if goes d then (8, off (act d).keep (act d)) else (0, act d)
def write (d : D) (n : Str) (i : Int) (b : Str) : Int × D :=
  if d.down then (8, d) else if 512 < b.size then (3, d) else if i < 0 ∨ (pgs d.now n).length < i then (1, d) else
  if i = (pgs d.now n).length ∧ free d < 1 then (7, d) else
  let d1 : D := { act d with now := put n (setP (pgs d.now n) i.toNat (pad b)) d.now, waits := d.waits ++ [⟨n, i.toNat, pad b⟩] }
  if goes d then (8, off d1.keep d1) else (0, d1)
def has (d : D) (n : Str) : Bool := !d.down && (mGet d.now n).isSome
def may (d : D) (n : Str) : Int × D :=
  if d.down then (8, d) else match mGet d.now n with | none => (5, d) | some _ => ended d
def drop (ws : List Wt) (n : Str) (k : Int) : List Wt := ws.filter fun w => !(decide (w.n = n) && decide (k ≤ (w.i : Int)))
def sync (d : D) (n : Str) : Int × D := match may d n with
  | (e, d1) => if e = 0 then (0, { d1 with safe := put n (pgs d1.now n) d1.safe, waits := drop d1.waits n 0 }) else (e, d1)
def cut (d : D) (n : Str) (k : Int) : Int × D :=
  if !d.down && (mGet d.now n).isSome && decide (k < 0) then (1, d) else match may d n with
  | (e, d1) => if e = 0 then (0, { d1 with now := put n ((pgs d1.now n).take k.toNat) d1.now, safe := put n ((pgs d1.safe n).take k.toNat) d1.safe, waits := drop d1.waits n k }) else (e, d1)
def moved (a b : Str) (F : Fs) : Fs := put b (pgs F a) (del a F)
def turnW (a b : Str) (w : Wt) : Wt := if w.n = a then { w with n := b } else w
def rename (d : D) (a b : Str) : Int × D := match may d a with
  | (e, d1) => if e = 0 ∧ a ≠ b then (0, { d1 with now := moved a b d1.now, safe := moved a b d1.safe, waits := (drop d1.waits b 0).map (turnW a b) }) else (e, d1)
def remove (d : D) (n : Str) : Int × D := match may d n with
  | (e, d1) => if e = 0 then (0, { d1 with now := del n d1.now, safe := del n d1.safe, waits := drop d1.waits n 0 }) else (e, d1)
def namesD (d : D) : List Str := if d.down then [] else names d.now
def count (d : D) (n : Str) : Nat := if d.down then 0 else (pgs d.now n).length
def read (d : D) (n : Str) (i : Int) : Str × Int :=
  if d.down then (⟨#[]⟩, 8) else if i < 0 ∨ ((pgs d.now n).length : Int) ≤ i then (⟨#[]⟩, 5) else ((pgs d.now n).getD i.toNat zp, 0)
def arm (d : D) (n keep : Int) : D := { d with fuse := n.toNat, keep := keep }
def on (d : D) : D := { d with down := false }
def new (room : Int) : D := { now := [], safe := [], waits := [], room := (min (max room 0) 4096).toNat, down := false, acts := 0, fuse := 0, keep := 0 }

/-- what always holds of a disk. -/
structure Ok (d : D) : Prop where
  now : SrtF d.now
  safe : SrtF d.safe
  room : d.room ≤ 4096
  tot : tot d.now ≤ d.room
  fewer : ∀ n, (pgs d.safe n).length ≤ (pgs d.now n).length
  waits : ∀ w ∈ d.waits, w.i < (pgs d.now w.n).length ∧ w.p.size = 512
  pnow : ∀ n, ∀ p ∈ pgs d.now n, p.size = 512
  psafe : ∀ n, ∀ p ∈ pgs d.safe n, p.size = 512
  fuse : d.fuse ≤ 9223372036854775807
  keep : 0 ≤ d.keep ∧ d.keep < 18446744073709551616
end Go.Dk
end

section
set_option linter.unusedSimpArgs false
set_option linter.unusedVariables false
namespace Go.Dk
open Go Go.Vc

theorem setP_len (l : List Str) (i : Nat) (p : Str) : (setP l i p).length = max l.length (i + 1) := by simp [setP]; omega
theorem setP_mem {l : List Str} {i : Nat} {p q : Str} (h : q ∈ setP l i p) : q = p ∨ q = zp ∨ q ∈ l := by
  unfold setP at h
  rcases List.mem_or_eq_of_mem_set h with h | h
  · rcases List.mem_append.1 h with h | h
    · exact .inr (.inr h)
    · exact .inr (.inl (List.mem_replicate.1 h).2)
  · exact .inl h
theorem zp_size : zp.size = 512 := by show (Array.replicate 512 (0 : UInt8)).size = 512; simp
theorem pad_size {b : Str} (h : b.size ≤ 512) : (pad b).size = 512 := by
  show (b.data ++ Array.replicate (512 - b.size) (0 : UInt8)).size = 512
  have : b.data.size = b.size := rfl
  simp; omega
theorem pgs_put {F : Fs} (h : SrtF F) (n : Str) (l : List Str) (q : Str) : pgs (put n l F) q = if q = n then l else pgs F q := by
  unfold pgs; rw [get_put h]; split <;> rfl
theorem pgs_del (F : Fs) (n q : Str) : pgs (del n F) q = if q = n then [] else pgs F q := by
  unfold pgs; rw [get_del]; split <;> rfl

/- ------------------------------------------------------------------ which writes are kept -/

theorem keepW_take (keep : Int) : ∀ (ws : List Wt) (i k : Nat) (F : Fs) (w : Wt), ws[k]? = some w →
    keepW keep i (ws.take (k + 1)) F = if kept keep (i + k) then app1 (keepW keep i (ws.take k) F) w else keepW keep i (ws.take k) F
  | [], i, k, F, w, h => by simp at h
  | a :: ws, i, 0, F, w, h => by simp at h; subst h; simp [keepW]
  | a :: ws, i, k + 1, F, w, h => by
    have := keepW_take keep ws (i + 1) k (if kept keep i then app1 F a else F) w (by simpa using h)
    rw [show i + (k + 1) = i + 1 + k by omega]
    simpa [keepW] using this

theorem kept_eq {keep : Int} (hk : 0 ≤ keep ∧ keep < 18446744073709551616) (k : Nat) :
    (IntKind.u64.wrap (((BitVec.ofInt 64 (keep.fdiv ((2 : Int) ^ min ((k : Int).tmod 64).toNat 64)) &&& BitVec.ofInt 64 1).toNat : Nat) : Int) == (1 : Int)) = kept keep k := by
  obtain ⟨n, rfl⟩ := Int.eq_ofNat_of_zero_le hk.1
  have e1 : (((k : Int).tmod 64).toNat) = k % 64 := by rw [Int.tmod_eq_emod_of_nonneg (by omega)]; omega
  have e2 : min (k % 64) 64 = k % 64 := by omega
  have e3 : ((n : Int).fdiv ((2 : Int) ^ (k % 64))) = ((n >>> (k % 64) : Nat) : Int) := by
    rw [Nat.shiftRight_eq_div_pow, Int.fdiv_eq_ediv_of_nonneg _ (Int.le_of_lt (Int.pow_pos (by decide)))]
    simp
  rw [e1, e2, e3]
  have hlt : n >>> (k % 64) < 18446744073709551616 := by
    have : n >>> (k % 64) ≤ n := by rw [Nat.shiftRight_eq_div_pow]; exact Nat.div_le_self _ _
    omega
  have := bits_and_u64_nat (n >>> (k % 64)) 1 hlt (by omega)
  have hb : IntKind.u64.wrap (((BitVec.ofInt 64 ((n >>> (k % 64) : Nat) : Int) &&& BitVec.ofInt 64 1).toNat : Nat) : Int) = ((n >>> (k % 64) &&& 1 : Nat) : Int) := this
  rw [hb, Nat.and_one_is_mod]
  unfold kept
  simp only [Int.toNat_natCast]
  generalize n >>> (k % 64) % 2 = m
  by_cases h : m = 1
  · subst h; rfl
  · rw [beq_eq_false_iff_ne.2 (by omega), beq_eq_false_iff_ne.2 (by omega)]

/- ------------------------------------------------------------------ names that are there -/

theorem get_addN (F : Fs) (h : SrtF F) (n q : Str) : mGet (addN F n) q = match mGet F q with | some l => some l | none => if q = n then some [] else none := by
  unfold addN
  cases hn : mGet F n with
  | some l =>
    cases hq : mGet F q with
    | some l' => simp [hq]
    | none =>
      have : q ≠ n := fun e => by subst e; rw [hn] at hq; cases hq
      simp [hq, this]
  | none =>
    rw [get_put h]
    by_cases e : q = n
    · subst e; simp [hn]
    · rw [if_neg e]; cases mGet F q <;> simp [e]
theorem addN_none {F : Fs} {n : Str} (h : mGet F n = none) : addN F n = put n [] F := by unfold addN; rw [h]
theorem addN_some {F : Fs} {n : Str} (h : (mGet F n).isSome = true) : addN F n = F := by unfold addN; cases hg : mGet F n with | some _ => rfl | none => rw [hg] at h; cases h
theorem srt_addN {F : Fs} (h : SrtF F) (n : Str) : SrtF (addN F n) := by
  unfold addN; cases mGet F n with | some _ => exact h | none => exact srt_put h _ _
theorem srt_addAll : ∀ (l : List Str) {F : Fs}, SrtF F → SrtF (l.foldl addN F)
  | [], _, h => h
  | n :: l, _, h => srt_addAll l (srt_addN h n)
open Classical in
theorem get_addAll : ∀ (l : List Str) (F : Fs), SrtF F → ∀ q, mGet (l.foldl addN F) q = match mGet F q with | some x => some x | none => if q ∈ l then some [] else none
  | [], F, _, q => by cases h : mGet F q <;> simp [h]
  | n :: l, F, h, q => by
    rw [List.foldl_cons, get_addAll l _ (srt_addN h n), get_addN F h]
    cases hq : mGet F q with
    | some x => rfl
    | none =>
      by_cases e : q = n
      · subst e; simp
      · simp [e]
theorem addAll_ext {l m : List Str} {F : Fs} (h : SrtF F) (hm : ∀ q, q ∈ l ↔ q ∈ m) : l.foldl addN F = m.foldl addN F :=
  fs_ext (srt_addAll l h) (srt_addAll m h) fun q => by
    rw [get_addAll l F h, get_addAll m F h]
    cases mGet F q with
    | some x => rfl
    | none =>
      by_cases h1 : q ∈ m
      · rw [if_pos h1, if_pos ((hm q).2 h1)]
      · rw [if_neg h1, if_neg fun h2 => h1 ((hm q).1 h2)]
theorem pgs_addN (F : Fs) (h : SrtF F) (n q : Str) : pgs (addN F n) q = pgs F q := by
  unfold pgs; rw [get_addN F h]; cases mGet F q with | some _ => rfl | none => dsimp only; split <;> rfl
theorem pgs_addAll : ∀ (l : List Str) (F : Fs), SrtF F → ∀ q, pgs (l.foldl addN F) q = pgs F q
  | [], _, _, _ => rfl
  | n :: l, F, h, q => by rw [List.foldl_cons, pgs_addAll l _ (srt_addN h n), pgs_addN F h]

/- ------------------------------------------------------------------ what always holds, still -/

theorem ok_safe {x : D} (h : Ok x) {G : Fs} (hs : SrtF G) (hf : ∀ n, (pgs G n).length ≤ (pgs x.now n).length) (hp : ∀ n, ∀ p ∈ pgs G n, p.size = 512) : Ok { x with safe := G } :=
  ⟨h.now, hs, h.room, h.tot, hf, h.waits, h.pnow, hp, h.fuse, h.keep⟩
theorem ok_app1 {x : D} (h : Ok x) {w : Wt} (hw : w ∈ x.waits) : Ok { x with safe := app1 x.safe w } := by
  obtain ⟨h1, h2⟩ := h.waits w hw
  refine ok_safe h (srt_put h.safe _ _) (fun n => ?_) fun n p hp => ?_
  · unfold app1; rw [pgs_put h.safe]
    split
    · rename_i e; subst e; rw [setP_len]; have := h.fewer w.n; omega
    · exact h.fewer n
  · unfold app1 at hp; rw [pgs_put h.safe] at hp
    split at hp
    · rcases setP_mem hp with rfl | rfl | hp
      · exact h2
      · exact zp_size
      · exact h.psafe _ _ hp
    · exact h.psafe _ _ hp
theorem ok_addN {x : D} (h : Ok x) (n : Str) : Ok { x with safe := addN x.safe n } :=
  ok_safe h (srt_addN h.safe n) (fun q => by rw [pgs_addN _ h.safe]; exact h.fewer q) fun q p hp => by rw [pgs_addN _ h.safe] at hp; exact h.psafe q p hp
theorem ok_addAll : ∀ (l : List Str) {x : D}, Ok x → Ok { x with safe := l.foldl addN x.safe }
  | [], _, h => h
  | n :: l, x, h => ok_addAll l (ok_addN h n)
theorem ok_keepW {x : D} (keep : Int) : ∀ (ws : List Wt) (i : Nat) {G : Fs}, Ok { x with safe := G } → (∀ w ∈ ws, w ∈ x.waits) → Ok { x with safe := keepW keep i ws G }
  | [], _, _, h, _ => h
  | w :: ws, i, G, h, hw => by
    have h2 : Ok { x with safe := app1 G w } := ok_app1 h (w := w) (hw w List.mem_cons_self)
    unfold keepW
    split
    · exact ok_keepW keep ws (i + 1) h2 fun w h => hw w (List.mem_cons_of_mem _ h)
    · exact ok_keepW keep ws (i + 1) h fun w h => hw w (List.mem_cons_of_mem _ h)
theorem ok_offS {x : D} (h : Ok x) (keep : Int) : Ok { x with safe := offS keep x } :=
  ok_addAll (names x.now) (ok_keepW keep x.waits 0 (G := x.safe) h fun _ h => h)
theorem ok_act {x : D} (h : Ok x) : Ok (act x) := ⟨h.now, h.safe, h.room, h.tot, h.fewer, h.waits, h.pnow, h.psafe, by show x.fuse - 1 ≤ _; have := h.fuse; omega, h.keep⟩
theorem ok_write {x : D} (h : Ok x) {s b : Str} {k : Nat} (hk : k ≤ (pgs x.now s).length) (hb : b.size ≤ 512) (hf : k = (pgs x.now s).length → 1 ≤ free x) :
    Ok { act x with now := put s (setP (pgs x.now s) k (pad b)) x.now, waits := x.waits ++ [⟨s, k, pad b⟩] } := by
  have hl : ∀ n, (pgs x.now n).length ≤ (pgs (put s (setP (pgs x.now s) k (pad b)) x.now) n).length := fun n => by
    rw [pgs_put h.now]
    split
    · rename_i e; subst e; rw [setP_len]; omega
    · exact Nat.le_refl _
  have a := ok_act h
  refine ⟨srt_put h.now _ _, h.safe, h.room, ?_, fun n => Nat.le_trans (h.fewer n) (hl n), fun w hw => ?_, fun n p hp => ?_, h.psafe, a.fuse, h.keep⟩
  · have h1 := tot_put h.now s (setP (pgs x.now s) k (pad b))
    rw [setP_len] at h1
    have h2 := h.tot
    show Dk.tot (put s (setP (pgs x.now s) k (pad b)) x.now) ≤ x.room
    by_cases e : k = (pgs x.now s).length
    · have := hf e; unfold free at this; omega
    · omega
  · rcases List.mem_append.1 hw with hw | hw
    · exact ⟨Nat.lt_of_lt_of_le (h.waits w hw).1 (hl w.n), (h.waits w hw).2⟩
    · simp only [List.mem_singleton] at hw
      subst hw
      refine ⟨?_, pad_size hb⟩
      show k < (pgs (put s (setP (pgs x.now s) k (pad b)) x.now) s).length
      rw [pgs_put h.now, if_pos rfl, setP_len]; omega
  · have hp : p ∈ pgs (put s (setP (pgs x.now s) k (pad b)) x.now) n := hp
    rw [pgs_put h.now] at hp
    split at hp
    · rcases setP_mem hp with rfl | rfl | hp
      · exact pad_size hb
      · exact zp_size
      · exact h.pnow _ _ hp
    · exact h.pnow _ _ hp
theorem tot_le : ∀ {F G : Fs}, SrtF F → SrtF G → (∀ n, (pgs F n).length ≤ (pgs G n).length) → tot F ≤ tot G
  | [], _, _, _, _ => Nat.zero_le _
  | p :: F, G, hF, hG, h => by
    have pF := List.pairwise_cons.1 hF
    have ih : tot F ≤ tot (del p.1 G) := tot_le pF.2 (srt_del hG _) fun n => by
      rw [pgs_del]
      by_cases e : n = p.1
      · subst e
        rw [if_pos rfl]
        have : mGet F p.1 = none := get_none_of_lt fun q hq => pF.1 q hq
        simp [pgs, this]
      · have := h n
        rw [if_neg e]
        simpa [pgs, mGet, Ne.symm e] using this
    have h1 := tot_del hG p.1
    have h2 : p.2.length ≤ (pgs G p.1).length := by have := h p.1; simpa [pgs, mGet] using this
    have h3 : tot (p :: F) = p.2.length + tot F := by simp [tot]
    omega
theorem ok_off {x : D} (h : Ok x) (keep : Int) : Ok (off keep x) := by
  unfold off
  split
  · exact h
  · have o := ok_offS h keep
    exact ⟨o.safe, o.safe, h.room, Nat.le_trans (tot_le o.safe h.now o.fewer) h.tot, fun _ => Nat.le_refl _, fun w hw => (by cases hw), o.psafe, o.psafe, Nat.zero_le _, h.keep⟩
end Go.Dk
end

section
set_option linter.unusedSimpArgs false
set_option linter.unusedVariables false
namespace Go.Dk
open Go Go.Vc

theorem mem_drop {ws : List Wt} {s : Str} {k : Int} {w : Wt} (h : w ∈ drop ws s k) : w ∈ ws ∧ ¬ (w.n = s ∧ k ≤ (w.i : Int)) := by
  unfold drop at h
  obtain ⟨h1, h2⟩ := List.mem_filter.1 h
  refine ⟨h1, fun h3 => ?_⟩
  rw [decide_eq_true h3.1, decide_eq_true h3.2] at h2
  cases h2
theorem ok_remove {x : D} (h : Ok x) (s : Str) : Ok { x with now := del s x.now, safe := del s x.safe, waits := drop x.waits s 0 } := by
  refine ⟨srt_del h.now _, srt_del h.safe _, h.room, ?_, fun n => ?_, fun w hw => ?_, fun n p hp => ?_, fun n p hp => ?_, h.fuse, h.keep⟩
  · have h1 := tot_del h.now s
    have h2 := h.tot
    show Dk.tot (del s x.now) ≤ x.room
    omega
  · show (pgs (del s x.safe) n).length ≤ (pgs (del s x.now) n).length
    rw [pgs_del, pgs_del]; split
    · exact Nat.le_refl _
    · exact h.fewer n
  · obtain ⟨h1, h2⟩ := mem_drop hw
    have h3 := h.waits w h1
    have h4 : w.n ≠ s := fun e => h2 ⟨e, by omega⟩
    show w.i < (pgs (del s x.now) w.n).length ∧ _
    rw [pgs_del, if_neg h4]; exact h3
  · have hp : p ∈ pgs (del s x.now) n := hp
    rw [pgs_del] at hp; split at hp
    · cases hp
    · exact h.pnow _ _ hp
  · have hp : p ∈ pgs (del s x.safe) n := hp
    rw [pgs_del] at hp; split at hp
    · cases hp
    · exact h.psafe _ _ hp
theorem ok_cut {x : D} (h : Ok x) (s : Str) (k : Nat) : Ok { x with now := put s ((pgs x.now s).take k) x.now, safe := put s ((pgs x.safe s).take k) x.safe, waits := drop x.waits s k } := by
  refine ⟨srt_put h.now _ _, srt_put h.safe _ _, h.room, ?_, fun n => ?_, fun w hw => ?_, fun n p hp => ?_, fun n p hp => ?_, h.fuse, h.keep⟩
  · have h1 := tot_put h.now s ((pgs x.now s).take k)
    have h2 := h.tot
    rw [List.length_take] at h1
    show Dk.tot (put s ((pgs x.now s).take k) x.now) ≤ x.room
    omega
  · show (pgs (put s ((pgs x.safe s).take k) x.safe) n).length ≤ (pgs (put s ((pgs x.now s).take k) x.now) n).length
    rw [pgs_put h.safe, pgs_put h.now]; split
    · rename_i e; have := h.fewer s; simp only [List.length_take]; omega
    · exact h.fewer n
  · obtain ⟨h1, h2⟩ := mem_drop hw
    have h3 := h.waits w h1
    show w.i < (pgs (put s ((pgs x.now s).take k) x.now) w.n).length ∧ _
    rw [pgs_put h.now]; split
    · rename_i e
      have : w.i < k := by by_cases h4 : w.i < k; exact h4; exact absurd ⟨e, by omega⟩ h2
      rw [e] at h3
      simp only [List.length_take]
      exact ⟨by omega, h3.2⟩
    · exact h3
  · have hp : p ∈ pgs (put s ((pgs x.now s).take k) x.now) n := hp
    rw [pgs_put h.now] at hp; split at hp
    · exact h.pnow _ _ (List.mem_of_mem_take hp)
    · exact h.pnow _ _ hp
  · have hp : p ∈ pgs (put s ((pgs x.safe s).take k) x.safe) n := hp
    rw [pgs_put h.safe] at hp; split at hp
    · exact h.psafe _ _ (List.mem_of_mem_take hp)
    · exact h.psafe _ _ hp
theorem put_put {F : Fs} (hF : SrtF F) (n : Str) (a b : List Str) : put n a (put n b F) = put n a F :=
  fs_ext (srt_put (srt_put hF _ _) _ _) (srt_put hF _ _) fun q => by rw [get_put (srt_put hF _ _), get_put hF, get_put hF]; split <;> rfl
theorem del_put {F : Fs} (hF : SrtF F) (n : Str) (a : List Str) : del n (put n a F) = del n F :=
  fs_ext (srt_del (srt_put hF _ _) _) (srt_del hF _) fun q => by rw [get_del, get_del, get_put hF]; split <;> rfl
end Go.Dk
end

section
set_option linter.unusedSimpArgs false
set_option linter.unusedVariables false
namespace Go.Dk
open Go Go.Vc

theorem pgs_moved {F : Fs} (h : SrtF F) (a b n : Str) : pgs (moved a b F) n = if n = b then pgs F a else if n = a then [] else pgs F n := by
  unfold moved
  rw [pgs_put (srt_del h a)]; split
  · rfl
  · rw [pgs_del]
theorem srt_moved {F : Fs} (h : SrtF F) (a b : Str) : SrtF (moved a b F) := srt_put (srt_del h a) _ _
theorem get_moved {F : Fs} (h : SrtF F) (a b n : Str) : mGet (moved a b F) n = if n = b then some (pgs F a) else if n = a then none else mGet F n := by
  unfold moved
  rw [get_put (srt_del h a)]; split
  · rfl
  · rw [get_del]
theorem tot_moved {F : Fs} (h : SrtF F) {a b : Str} (hab : a ≠ b) : tot (moved a b F) + (pgs F b).length = tot F := by
  have h1 := tot_put (srt_del h a) b (pgs F a)
  have h2 := tot_del h a
  rw [pgs_del, if_neg (Ne.symm hab)] at h1
  unfold moved
  omega
theorem mem_turn {ws : List Wt} {a b : Str} {w : Wt} (h : w ∈ (drop ws b 0).map (turnW a b)) :
    ∃ v ∈ ws, v.n ≠ b ∧ w.i = v.i ∧ w.p = v.p ∧ w.n = (if v.n = a then b else v.n) := by
  obtain ⟨v, hv, rfl⟩ := List.mem_map.1 h
  obtain ⟨h1, h2⟩ := mem_drop hv
  refine ⟨v, h1, fun e => h2 ⟨e, by omega⟩, ?_, ?_, ?_⟩ <;> (unfold turnW; split <;> rfl)
theorem ok_rename {x : D} (h : Ok x) {a b : Str} (hab : a ≠ b) : Ok { x with now := moved a b x.now, safe := moved a b x.safe, waits := (drop x.waits b 0).map (turnW a b) } := by
  refine ⟨srt_moved h.now _ _, srt_moved h.safe _ _, h.room, ?_, fun n => ?_, fun w hw => ?_, fun n p hp => ?_, fun n p hp => ?_, h.fuse, h.keep⟩
  · have h1 := tot_moved h.now hab
    have h2 := h.tot
    show Dk.tot (moved a b x.now) ≤ x.room
    omega
  · show (pgs (moved a b x.safe) n).length ≤ (pgs (moved a b x.now) n).length
    rw [pgs_moved h.safe, pgs_moved h.now]; split
    · exact h.fewer a
    · split
      · exact Nat.le_refl _
      · exact h.fewer n
  · obtain ⟨v, hv, h1, h2, h3, h4⟩ := mem_turn hw
    have h5 := h.waits v hv
    show w.i < (pgs (moved a b x.now) w.n).length ∧ w.p.size = 512
    rw [pgs_moved h.now, h2, h3, h4]
    by_cases e : v.n = a
    · rw [if_pos e, if_pos rfl, ← e]; exact h5
    · rw [if_neg e, if_neg h1, if_neg e]; exact h5
  · have hp : p ∈ pgs (moved a b x.now) n := hp
    rw [pgs_moved h.now] at hp; split at hp
    · exact h.pnow _ _ hp
    · split at hp
      · cases hp
      · exact h.pnow _ _ hp
  · have hp : p ∈ pgs (moved a b x.safe) n := hp
    rw [pgs_moved h.safe] at hp; split at hp
    · exact h.psafe _ _ hp
    · split at hp
      · cases hp
      · exact h.psafe _ _ hp
end Go.Dk
end

section
set_option linter.unusedSimpArgs false
set_option linter.unusedVariables false
set_option maxRecDepth 20000
namespace Go.Cd
open Go Go.Vc

/-- a number's bytes: seven bits a byte, the lowest first. -/
def uintB (n : Nat) : List UInt8 := if h : n < 128 then [UInt8.ofNat n] else UInt8.ofNat (n % 128 + 128) :: uintB (n / 128)
termination_by n
decreasing_by omega
theorem uintB_small {n : Nat} (h : n < 128) : uintB n = [UInt8.ofNat n] := by rw [uintB, dif_pos h]
theorem uintB_big {n : Nat} (h : ¬ n < 128) : uintB n = UInt8.ofNat (n % 128 + 128) :: uintB (n / 128) := by rw [uintB, dif_neg h]
theorem uintB_len : ∀ (k n : Nat), n < 128 ^ (k + 1) → (uintB n).length ≤ k + 1
  | 0, n, h => by rw [uintB_small (by simpa using h)]; simp
  | k + 1, n, h => by
    by_cases hn : n < 128
    · rw [uintB_small hn]; simp
    · rw [uintB_big hn, List.length_cons]
      have := uintB_len k (n / 128) (by rw [Nat.pow_succ] at h; exact Nat.div_lt_of_lt_mul (by rw [Nat.mul_comm]; exact h))
      omega
theorem uintB_len10 {n : Nat} (h : n < 18446744073709551616) : (uintB n).length ≤ 10 := by
  have h1 : (128 : Nat) ^ (9 + 1) = 1180591620717411303424 := by decide
  exact uintB_len 9 n (by rw [h1]; omega)
theorem uintB_pos (n : Nat) : 0 < (uintB n).length := by
  by_cases h : n < 128
  · rw [uintB_small h]; simp
  · rw [uintB_big h]; simp
def textB (s : ByteArray) : List UInt8 := uintB s.size ++ bytesL s
def b8 (n : Int) : UInt8 := UInt8.ofNat (n % 256).toNat
theorem u8_b8 (n : Int) : IntKind.u8.wrap n = ((b8 n).toNat : Int) := by
  have h1 : IntKind.u8.wrap n = n % 256 := by simp [IntKind.wrap, IntKind.signed, IntKind.bits]
  unfold b8
  rw [h1, UInt8.toNat_ofNat']
  omega
theorem b8_nat {n : Nat} : b8 n = UInt8.ofNat n := by
  unfold b8
  apply UInt8.toNat_inj.1
  rw [UInt8.toNat_ofNat', UInt8.toNat_ofNat']
  omega
theorem or128 : ∀ k : Fin 256, ((BitVec.ofInt 8 (k.val : Int)) ||| BitVec.ofInt 8 128).toNat = k.val % 128 + 128 := by decide
theorem or_lead (m : Nat) : IntKind.u8.wrap ((BitVec.ofInt 8 (IntKind.u8.wrap (m : Int)) ||| BitVec.ofInt 8 128).toNat : Int) = ((UInt8.ofNat (m % 128 + 128)).toNat : Int) := by
  have h1 : IntKind.u8.wrap (m : Int) = ((m % 256 : Nat) : Int) := by simp [IntKind.wrap, IntKind.signed, IntKind.bits]
  rw [h1]
  have := or128 ⟨m % 256, by omega⟩
  rw [this, u8_b8, b8_nat]
  have e : m % 256 % 128 = m % 128 := by omega
  rw [e]
/-- a check's step by one bit; by a byte; by bytes. -/
def crc1 (n : Int) : Int := IntKind.u32.wrap (BitVec.ofInt 32 (n.fdiv (2 ^ 1)) ^^^ BitVec.ofInt 32 (IntKind.u32.wrap (BitVec.ofInt 32 2197175160 &&& BitVec.ofInt 32 (IntKind.u32.wrap (0 - IntKind.u32.wrap (BitVec.ofInt 32 n &&& BitVec.ofInt 32 1).toNat))).toNat)).toNat
def crcN : Nat → Int → Int
  | 0, n => n
  | k + 1, n => crcN k (crc1 n)
def crcB (s : Int) (b : UInt8) : Int := crcN 8 (IntKind.u32.wrap (BitVec.ofInt 32 s ^^^ BitVec.ofInt 32 (IntKind.u32.wrap (b.toNat : Nat))).toNat)
def crc (l : List UInt8) : Int := IntKind.u32.wrap (BitVec.ofInt 32 (Int.ofNat 4294967295) ^^^ BitVec.ofInt 32 (l.foldl crcB 4294967295)).toNat
theorem crcN_succ (k : Nat) (n : Int) : crcN (k + 1) n = crc1 (crcN k n) := by
  induction k generalizing n with
  | zero => rfl
  | succ k ih => show crcN (k + 1) (crc1 n) = _; rw [ih]; rfl
def sumB (c : Int) : List UInt8 := [b8 c, b8 (c.fdiv (2 ^ 8)), b8 (c.fdiv (2 ^ 16)), b8 (c.fdiv (2 ^ 24))]
def frameB (s : ByteArray) : List UInt8 := textB s ++ sumB (crc (textB s))
theorem textB_len (s : ByteArray) : (textB s).length = (uintB s.size).length + s.size := by
  unfold textB
  rw [List.length_append]
  rfl
theorem frameB_len (s : ByteArray) : (frameB s).length = (textB s).length + 4 := by simp [frameB, sumB]
end Go.Cd
end

section
set_option linter.unusedSimpArgs false
set_option linter.unusedVariables false
namespace Go.Pg
open Go Go.Vc Go.Dk Go.Cd

def nmT (n : Str) : Str := n ++ (⟨#[45, 116]⟩ : ByteArray)
def nmJ (n : Str) : Str := n ++ (⟨#[45, 106]⟩ : ByteArray)
abbrev Rw := List (Int × Str)
/-- pages are written, one behind the other, as long as it goes. -/
def layW (n : Str) : Rw → D → Int × D
  | [], x => (0, x)
  | p :: l, x => if (write x n p.1 p.2).1 ≠ 0 then write x n p.1 p.2 else layW n l (write x n p.1 p.2).2
def lay1 (n : Str) (W : Rw) (x : D) : Int × D := if W = [] then (0, x) else sync x n
def lay (n : Str) (W : Rw) (x : D) : Int × D :=
  if (layW n W x).1 ≠ 0 then layW n W x else
  if (lay1 n W (layW n W x).2).1 ≠ 0 then lay1 n W (layW n W x).2 else remove (lay1 n W (layW n W x).2).2 (nmJ n)
def fresh (c : Nat) (W : Rw) : Nat := (W.filter fun p => decide ((c : Int) ≤ p.1)).length
def may (c : Nat) (W : Rw) : Int × Int :=
  if W.any (fun p => decide (512 < p.2.size)) then (0, 3) else
  if W.any (fun p => decide (p.1 < 0) || decide (p.1 ≥ (c : Int) + fresh c W)) then (0, 1) else (fresh c W, 0)
def record (W : Rw) : List UInt8 := uintB (2 * W.length) ++ W.flatMap fun p => uintB (2 * p.1.toNat) ++ textB p.2
def frameW (W : Rw) : List UInt8 := frameB ⟨(record W).toArray⟩
/-- the k-th part of bytes. -/
def partB (l : List UInt8) (k : Nat) : Str := ⟨((l.drop (512 * k)).take 512).toArray⟩
def nparts (l : List UInt8) : Nat := (l.length + 511) / 512
/-- its parts, by numbers. -/
def partsW (l : List UInt8) : Rw := (List.range (nparts l)).map fun k : Nat => (((k : Nat) : Int), partB l k)
/-- a draft that became a journal. -/
def journal (n : Str) (l : List UInt8) (x : D) : Int × D :=
  if (layW (nmT n) (partsW l) x).1 ≠ 0 then layW (nmT n) (partsW l) x else
  if (sync (layW (nmT n) (partsW l) x).2 (nmT n)).1 ≠ 0 then sync (layW (nmT n) (partsW l) x).2 (nmT n) else
  rename (sync (layW (nmT n) (partsW l) x).2 (nmT n)).2 (nmT n) (nmJ n)
def commit (n : Str) (W : Rw) (x : D) : Int × D :=
  if x.down then (8, x) else
  if (may (count x n) W).2 ≠ 0 ∨ W = [] then ((may (count x n) W).2, x) else
  if free x < (nparts (frameW W) : Int) + (may (count x n) W).1 then (7, x) else
  if (journal n (frameW W) x).1 ≠ 0 then journal n (frameW W) x else lay n W (journal n (frameW W) x).2

/- ------------------------------------------------------------------ writes that wait -/
theorem off_waits (k : Int) (x : D) : (off k x).waits.length ≤ x.waits.length := by
  unfold off; split <;> simp
theorem act_waits (x : D) : (act x).waits = x.waits := rfl
theorem write_waits (x : D) (n : Str) (i : Int) (b : Str) : (write x n i b).2.waits.length ≤ x.waits.length + 1 := by
  unfold write
  split
  · exact Nat.le_succ _
  · split
    · exact Nat.le_succ _
    · split
      · exact Nat.le_succ _
      · split
        · exact Nat.le_succ _
        · dsimp only
          split
          · refine Nat.le_trans (off_waits _ _) ?_
            simp
          · simp
theorem ended_waits (x : D) : (ended x).2.waits.length ≤ x.waits.length := by
  unfold ended; split
  · exact off_waits _ _
  · exact Nat.le_refl _
theorem may_waits (x : D) (n : Str) : (Dk.may x n).2.waits.length ≤ x.waits.length := by
  unfold Dk.may
  split
  · exact Nat.le_refl _
  · split
    · exact Nat.le_refl _
    · exact ended_waits x
theorem drop_waits (ws : List Wt) (n : Str) (k : Int) : (Dk.drop ws n k).length ≤ ws.length := List.length_filter_le _ _
theorem sync_waits (x : D) (n : Str) : (sync x n).2.waits.length ≤ x.waits.length := by
  have h := may_waits x n
  unfold sync
  split
  rename_i e d1 he
  rw [he] at h
  split
  · exact Nat.le_trans (drop_waits _ _ _) h
  · exact h
theorem rename_waits (x : D) (a b : Str) : (rename x a b).2.waits.length ≤ x.waits.length := by
  have h := may_waits x a
  unfold rename
  split
  rename_i e d1 he
  rw [he] at h
  split
  · simp only [List.length_map]
    exact Nat.le_trans (drop_waits _ _ _) h
  · exact h
theorem remove_waits (x : D) (a : Str) : (remove x a).2.waits.length ≤ x.waits.length := by
  have h := may_waits x a
  unfold remove
  split
  rename_i e d1 he
  rw [he] at h
  split
  · exact Nat.le_trans (drop_waits _ _ _) h
  · exact h
theorem layW_waits (n : Str) : ∀ (W : Rw) (x : D), (layW n W x).2.waits.length ≤ x.waits.length + W.length
  | [], x => Nat.le_refl _
  | p :: W, x => by
    have h1 := write_waits x n p.1 p.2
    unfold layW
    split
    · simp only [List.length_cons]; omega
    · have := layW_waits n W (write x n p.1 p.2).2
      simp only [List.length_cons]; omega
theorem partsW_len (l : List UInt8) : (partsW l).length = nparts l := by simp [partsW]
theorem journal_waits (n : Str) (l : List UInt8) (x : D) : (journal n l x).2.waits.length ≤ x.waits.length + nparts l := by
  have h1 := layW_waits (nmT n) (partsW l) x
  have h2 := sync_waits (layW (nmT n) (partsW l) x).2 (nmT n)
  have h3 := rename_waits (sync (layW (nmT n) (partsW l) x).2 (nmT n)).2 (nmT n) (nmJ n)
  rw [partsW_len] at h1
  unfold journal
  split
  · exact h1
  · split <;> omega
theorem lay1_waits (n : Str) (W : Rw) (x : D) : (lay1 n W x).2.waits.length ≤ x.waits.length := by
  unfold lay1; split
  · exact Nat.le_refl _
  · exact sync_waits _ _
theorem count_le {x : D} (ok : Ok x) (n : Str) : count x n ≤ 4096 := by
  have h1 := tot_del ok.now n
  have h2 := ok.tot
  have h3 := ok.room
  unfold count
  split
  · omega
  · omega
/-- rising numbers. -/
abbrev SrtI (l : List Int) : Prop := l.Pairwise fun a b => a < b
theorem srtI_ext : ∀ {l m : List Int}, SrtI l → SrtI m → (∀ k, k ∈ l ↔ k ∈ m) → l = m
  | [], [], _, _, _ => rfl
  | [], b :: m, _, _, h => by have := (h b).2 List.mem_cons_self; cases this
  | a :: l, [], _, _, h => by have := (h a).1 List.mem_cons_self; cases this
  | a :: l, b :: m, hl, hm, h => by
    have pl := List.pairwise_cons.1 hl
    have pm := List.pairwise_cons.1 hm
    have e : a = b := by
      rcases List.mem_cons.1 ((h a).1 List.mem_cons_self) with e | h1
      · exact e
      rcases List.mem_cons.1 ((h b).2 List.mem_cons_self) with e | h2
      · exact e.symm
      · have h3 := pl.1 _ h2; have h4 := pm.1 _ h1; omega
    subst e
    rw [srtI_ext pl.2 pm.2 fun k => ?_]
    constructor
    · intro hk
      rcases List.mem_cons.1 ((h k).1 (List.mem_cons_of_mem _ hk)) with e | h1
      · subst e; have := pl.1 _ hk; omega
      · exact h1
    · intro hk
      rcases List.mem_cons.1 ((h k).2 (List.mem_cons_of_mem _ hk)) with e | h1
      · subst e; have := pm.1 _ hk; omega
      · exact h1
theorem srtI_nodup {l : List Int} (h : SrtI l) : l.Nodup := h.imp fun h e => by omega
end Go.Pg
end

section
set_option linter.unusedSimpArgs false
set_option linter.unusedVariables false
namespace Go.Pg
open Go Go.Vc Go.Dk Go.Cd

/-- no power will go. -/
structure Quiet (x : D) : Prop where
  down : x.down = false
  fuse : x.fuse = 0
/-- so many acts later, with these files. -/
structure Nx (k : Nat) (x y : D) (F : Fs) : Prop where
  q : Quiet y
  now : y.now = F
  room : y.room = x.room
  acts : ∀ a : Nat, x.acts = a → a + k < 4611686018427387904 → y.acts = ((a + k : Nat) : Int)
theorem Nx.refl {x : D} (q : Quiet x) : Nx 0 x x x.now := ⟨q, rfl, rfl, fun a h _ => h⟩
theorem Nx.trans {k m : Nat} {x y z : D} {F G : Fs} (h : Nx k x y F) (g : Nx m y z G) : Nx (k + m) x z G :=
  ⟨g.q, g.now, g.room.trans h.room, fun a ha hb => by
    have h1 := h.acts a ha (by omega)
    have h2 := g.acts _ h1 (by omega)
    rw [h2, Nat.add_assoc]⟩
theorem Nx.cast {k m : Nat} {x y : D} {F G : Fs} (h : Nx k x y F) (e : k = m) (f : F = G) : Nx m x y G := e ▸ f ▸ h
theorem acts_nx {x : D} {a : Nat} (ha : x.acts = a) (hb : a + 1 < 4611686018427387904) : IntKind.i64.wrap (x.acts + 1) = ((a + 1 : Nat) : Int) := by
  rw [ha, wrap_i64 (by omega) (by omega)]; omega
theorem goes_quiet {x : D} (q : Quiet x) : goes x = false := by unfold goes; rw [q.fuse]; rfl
theorem write_nx {x : D} (q : Quiet x) {n : Str} {i : Int} {b : Str} (hb : b.size ≤ 512) (hi : 0 ≤ i ∧ i ≤ (pgs x.now n).length) (hf : i = (pgs x.now n).length → 1 ≤ free x) :
    (write x n i b).1 = 0 ∧ Nx 1 x (write x n i b).2 (put n (setP (pgs x.now n) i.toNat (pad b)) x.now) := by
  have h1 : ¬ x.down = true := by rw [q.down]; decide
  have h2 : ¬ 512 < b.size := by omega
  have h3 : ¬ (i < 0 ∨ ((pgs x.now n).length : Int) < i) := by omega
  have h4 : ¬ (i = (pgs x.now n).length ∧ free x < 1) := fun ⟨a, b⟩ => by have := hf a; omega
  have h5 : ¬ goes x = true := by rw [goes_quiet q]; decide
  unfold write
  rw [if_neg h1, if_neg h2, if_neg h3, if_neg h4]
  dsimp only
  rw [if_neg h5]
  exact ⟨rfl, ⟨q.down, by show x.fuse - 1 = 0; rw [q.fuse]⟩, rfl, rfl, fun a ha hb => acts_nx ha hb⟩
theorem may_nx {x : D} (q : Quiet x) {n : Str} (hn : (mGet x.now n).isSome = true) : Dk.may x n = (0, act x) := by
  have h1 : ¬ x.down = true := by rw [q.down]; decide
  have h5 : ¬ goes x = true := by rw [goes_quiet q]; decide
  unfold Dk.may
  rw [if_neg h1]
  cases hg : mGet x.now n with
  | none => rw [hg] at hn; cases hn
  | some l => dsimp only; unfold ended; rw [if_neg h5]
theorem act_nx {x : D} (q : Quiet x) : Quiet (act x) := ⟨q.down, by show x.fuse - 1 = 0; rw [q.fuse]⟩
theorem sync_nx {x : D} (q : Quiet x) {n : Str} (hn : (mGet x.now n).isSome = true) : (sync x n).1 = 0 ∧ Nx 1 x (sync x n).2 x.now := by
  unfold sync
  rw [may_nx q hn]
  exact ⟨rfl, ⟨q.down, (act_nx q).fuse⟩, rfl, rfl, fun a ha hb => acts_nx ha hb⟩
theorem remove_nx {x : D} (q : Quiet x) {n : Str} (hn : (mGet x.now n).isSome = true) : (remove x n).1 = 0 ∧ Nx 1 x (remove x n).2 (del n x.now) := by
  unfold remove
  rw [may_nx q hn]
  exact ⟨rfl, ⟨q.down, (act_nx q).fuse⟩, rfl, rfl, fun a ha hb => acts_nx ha hb⟩
theorem rename_nx {x : D} (q : Quiet x) {n m : Str} (hn : (mGet x.now n).isSome = true) (hm : n ≠ m) : (rename x n m).1 = 0 ∧ Nx 1 x (rename x n m).2 (moved n m x.now) := by
  unfold rename
  rw [may_nx q hn]
  dsimp only
  rw [if_pos ⟨rfl, hm⟩]
  exact ⟨rfl, ⟨q.down, (act_nx q).fuse⟩, rfl, rfl, fun a ha hb => acts_nx ha hb⟩

/- ------------------------------------------------------------------ rows, one by one -/
/-- each is there, or follows. -/
def seqB : Nat → Rw → Bool
  | _, [] => true
  | c, p :: W => decide (0 ≤ p.1) && decide (p.1 ≤ c) && seqB (if p.1 = c then c + 1 else c) W
/-- how many follow. -/
def newN : Nat → Rw → Nat
  | _, [] => 0
  | c, p :: W => if p.1 = c then 1 + newN (c + 1) W else newN c W
def laidL : Rw → List Str → List Str
  | [], l => l
  | p :: W, l => laidL W (setP l p.1.toNat (pad p.2))
theorem setP_len (l : List Str) (i : Nat) (p : Str) : (setP l i p).length = max l.length (i + 1) := by
  unfold setP; rw [List.length_set, List.length_append, List.length_replicate]; omega
theorem laidL_len : ∀ (W : Rw) (l : List Str), seqB l.length W = true → (laidL W l).length = l.length + newN l.length W
  | [], l, _ => rfl
  | p :: W, l, h => by
    unfold seqB at h
    simp only [Bool.and_eq_true, decide_eq_true_eq] at h
    obtain ⟨⟨h1, h2⟩, h3⟩ := h
    have hl := setP_len l p.1.toNat (pad p.2)
    unfold laidL newN
    by_cases e : p.1 = l.length
    · rw [if_pos e] at h3 ⊢
      have hl' : (setP l p.1.toNat (pad p.2)).length = l.length + 1 := by omega
      rw [laidL_len W _ (by rw [hl']; exact h3), hl']; omega
    · rw [if_neg e] at h3 ⊢
      have hl' : (setP l p.1.toNat (pad p.2)).length = l.length := by omega
      rw [laidL_len W _ (by rw [hl']; exact h3), hl']
theorem put_put {F : Fs} (h : SrtF F) (n : Str) (a b : List Str) : put n b (put n a F) = put n b F :=
  fs_ext (srt_put (srt_put h n a) n b) (srt_put h n b) fun q => by
    rw [get_put (srt_put h n a), get_put h, get_put h]
    by_cases e : q = n <;> simp [e]
theorem pgs_put {F : Fs} (h : SrtF F) (n : Str) (a : List Str) : pgs (put n a F) n = a := by unfold pgs; rw [get_put h, if_pos rfl]; rfl
theorem layW_nx : ∀ (W : Rw) {x : D} (n : Str), Quiet x → SrtF x.now → (∀ p ∈ W, p.2.size ≤ 512) → seqB (pgs x.now n).length W = true → (newN (pgs x.now n).length W : Int) ≤ free x →
    (layW n W x).1 = 0 ∧ Nx W.length x (layW n W x).2 (if W = [] then x.now else put n (laidL W (pgs x.now n)) x.now)
  | [], x, n, q, _, _, _, _ => ⟨rfl, Nx.refl q⟩
  | p :: W, x, n, q, hs, hz, hq, hf => by
    unfold seqB at hq
    simp only [Bool.and_eq_true, decide_eq_true_eq] at hq
    obtain ⟨⟨h1, h2⟩, h3⟩ := hq
    unfold newN at hf
    have hw := write_nx q (n := n) (i := p.1) (b := p.2) (hz p List.mem_cons_self) ⟨h1, h2⟩ (fun e => by rw [if_pos e] at hf; omega)
    obtain ⟨w1, w2⟩ := hw
    have e0 : ¬ (write x n p.1 p.2).1 ≠ 0 := by simp [w1]
    generalize hy : (write x n p.1 p.2).2 = y at w2
    have hpl : pgs y.now n = setP (pgs x.now n) p.1.toNat (pad p.2) := by rw [w2.now]; exact pgs_put hs _ _
    have hsl := setP_len (pgs x.now n) p.1.toNat (pad p.2)
    have htot := tot_put hs n (setP (pgs x.now n) p.1.toNat (pad p.2))
    have hfree : free y + (setP (pgs x.now n) p.1.toNat (pad p.2)).length = free x + (pgs x.now n).length := by
      unfold free; rw [w2.room, w2.now]; omega
    have hsy : SrtF y.now := by rw [w2.now]; exact srt_put hs _ _
    have key : (pgs y.now n).length = (if p.1 = (pgs x.now n).length then (pgs x.now n).length + 1 else (pgs x.now n).length) := by
      rw [hpl, hsl]; split <;> omega
    have ih := layW_nx W (x := y) n w2.q hsy (fun r hr => hz r (List.mem_cons_of_mem _ hr)) (by rw [key]; exact h3) (by
      rw [key]
      rw [hpl] at key
      by_cases e : p.1 = (pgs x.now n).length
      · rw [if_pos e] at hf key ⊢; omega
      · rw [if_neg e] at hf key ⊢; omega)
    have hlw : layW n (p :: W) x = layW n W y := by rw [layW, if_neg e0, hy]
    rw [hlw]
    refine ⟨ih.1, (w2.trans ih.2).cast (by rw [List.length_cons]; omega) ?_⟩
    rw [hpl, w2.now]
    simp only [reduceCtorEq, if_false, laidL]
    split
    · rename_i e; subst e; rfl
    · exact put_put hs _ _ _
/-- how a rising list's numbers grow. -/
theorem srt_last : ∀ (l : List Int) (a : Int), SrtI (a :: l) → ∃ b ∈ a :: l, a + l.length ≤ b
  | [], a, _ => ⟨a, List.mem_cons_self, by simp⟩
  | b :: l, a, h => by
    obtain ⟨h1, h2⟩ := List.pairwise_cons.1 h
    obtain ⟨c, hc, hle⟩ := srt_last l b h2
    have := h1 b List.mem_cons_self
    exact ⟨c, List.mem_cons_of_mem _ hc, by simp only [List.length_cons]; omega⟩
theorem fresh_cons (c : Nat) (p : Int × Str) (W : Rw) : fresh c (p :: W) = (if (c : Int) ≤ p.1 then 1 else 0) + fresh c W := by
  unfold fresh
  by_cases h : (c : Int) ≤ p.1 <;> simp [h]
  omega
theorem fresh_all (c : Nat) (W : Rw) (h : ∀ p ∈ W, (c : Int) ≤ p.1) : fresh c W = W.length := by
  unfold fresh
  rw [List.filter_eq_self.2 fun p hp => by simp [h p hp]]
theorem seqB_cons (c : Nat) (p : Int × Str) (W : Rw) : seqB c (p :: W) = true ↔ (0 ≤ p.1 ∧ p.1 ≤ c) ∧ seqB (if p.1 = c then c + 1 else c) W = true := by
  rw [seqB]; simp only [Bool.and_eq_true, decide_eq_true_eq]
theorem newN_cons (c : Nat) (p : Int × Str) (W : Rw) : newN c (p :: W) = if p.1 = c then 1 + newN (c + 1) W else newN c W := by rw [newN]
theorem seq_iff : ∀ (W : Rw) (c : Nat), SrtI (W.map (·.1)) → (seqB c W = true ↔ ∀ p ∈ W, 0 ≤ p.1 ∧ p.1 < (c : Int) + fresh c W) ∧ (seqB c W = true → newN c W = fresh c W)
  | [], c, _ => ⟨⟨fun _ p hp => (by cases hp), fun _ => rfl⟩, fun _ => rfl⟩
  | p :: W, c, h => by
    obtain ⟨h1, h2⟩ := List.pairwise_cons.1 h
    have hgt : ∀ r ∈ W, p.1 < r.1 := fun r hr => h1 r.1 (List.mem_map_of_mem hr)
    rw [fresh_cons, seqB_cons, newN_cons]
    by_cases e : p.1 = c
    · rw [if_pos e, if_pos e, if_pos (by omega)]
      obtain ⟨i1, i2⟩ := seq_iff W (c + 1) h2
      have f1 : fresh c W = W.length := fresh_all c W fun r hr => by have := hgt r hr; omega
      have f2 : fresh (c + 1) W = W.length := fresh_all (c + 1) W fun r hr => by have := hgt r hr; omega
      rw [f1]
      rw [f2] at i1 i2
      refine ⟨⟨fun h3 r hr => ?_, fun h3 => ⟨⟨by omega, by omega⟩, i1.2 fun r hr => ?_⟩⟩, fun h3 => by rw [i2 h3.2]⟩
      · rcases List.mem_cons.1 hr with rfl | hr
        · omega
        · have := i1.1 h3.2 r hr; omega
      · have := h3 r (List.mem_cons_of_mem _ hr); omega
    · rw [if_neg e, if_neg e]
      obtain ⟨i1, i2⟩ := seq_iff W c h2
      by_cases hc : (c : Int) ≤ p.1
      · rw [if_pos hc]
        have f1 : fresh c W = W.length := fresh_all c W fun r hr => by have := hgt r hr; omega
        obtain ⟨b, hb, hle⟩ := srt_last (W.map (fun q : Int × Str => q.1)) p.1 h
        rw [List.length_map] at hle
        refine ⟨⟨fun h3 => by omega, fun h3 => ?_⟩, fun h3 => by omega⟩
        exfalso
        rw [f1] at h3
        have : ∃ r ∈ p :: W, r.1 = b := by
          have hb' : b ∈ (p :: W).map (fun q : Int × Str => q.1) := hb
          obtain ⟨r, hr, e⟩ := List.mem_map.1 hb'
          exact ⟨r, hr, e⟩
        obtain ⟨r, hr, rfl⟩ := this
        have := h3 r hr
        omega
      · rw [if_neg hc, Nat.zero_add]
        refine ⟨⟨fun h3 r hr => ?_, fun h3 => ⟨⟨(h3 p List.mem_cons_self).1, by omega⟩, i1.2 fun r hr => h3 r (List.mem_cons_of_mem _ hr)⟩⟩, fun h5 => i2 h5.2⟩
        rcases List.mem_cons.1 hr with rfl | hr
        · omega
        · exact i1.1 h3.2 r hr
/-- what a commit must answer. -/
def wants (c : Nat) (f : Int) (W : Rw) : Int :=
  if W.any (fun p => decide (512 < p.2.size)) then 3 else if !seqB c W then 1 else if W = [] then 0 else if f < (nparts (frameW W) : Int) + newN c W then 7 else 0
theorem seq_range (g : Nat → Str) : ∀ (m c : Nat), seqB c ((List.range' c m).map fun k : Nat => (((k : Nat) : Int), g k)) = true ∧ newN c ((List.range' c m).map fun k : Nat => (((k : Nat) : Int), g k)) = m
  | 0, c => ⟨rfl, rfl⟩
  | m + 1, c => by
    rw [List.range'_succ, List.map_cons]
    unfold seqB newN
    obtain ⟨h1, h2⟩ := seq_range g m (c + 1)
    rw [if_pos rfl, if_pos rfl, h1, h2]
    refine ⟨by simp, by omega⟩
theorem partB_size (l : List UInt8) (k : Nat) : (partB l k).size ≤ 512 := by
  unfold partB
  show (((l.drop (512 * k)).take 512).toArray).size ≤ 512
  rw [List.size_toArray, List.length_take]
  exact Nat.min_le_left _ _
theorem nm_ne (n : Str) : nmT n ≠ n ∧ nmJ n ≠ n ∧ nmT n ≠ nmJ n := by
  have key : ∀ (a : Array UInt8), (n ++ (⟨a⟩ : ByteArray)).data.toList = n.data.toList ++ a.toList := fun a => by rw [ByteArray.data_append, Array.toList_append]
  refine ⟨fun h => ?_, fun h => ?_, fun h => ?_⟩
  · have := congrArg (fun s : ByteArray => s.data.toList) h
    unfold nmT at this
    rw [key] at this
    have := congrArg List.length this
    simp at this
  · have := congrArg (fun s : ByteArray => s.data.toList) h
    unfold nmJ at this
    rw [key] at this
    have := congrArg List.length this
    simp at this
  · have := congrArg (fun s : ByteArray => s.data.toList) h
    unfold nmT nmJ at this
    rw [key, key] at this
    have := List.append_cancel_left this
    simp at this
theorem frameW_pos (W : Rw) : 0 < nparts (frameW W) := by
  have := frameB_len ⟨(record W).toArray⟩
  unfold nparts
  unfold frameW
  omega
theorem del_put {F : Fs} (h : SrtF F) {n : Str} (hn : mGet F n = none) (l : List Str) : del n (put n l F) = F :=
  fs_ext (srt_del (srt_put h n l) n) h fun q => by
    rw [get_del, get_put h]
    by_cases e : q = n
    · subst e; rw [if_pos rfl, hn]
    · rw [if_neg e, if_neg e]
theorem journal_nx {x : D} {n : Str} {l : List UInt8} (ok : SrtF x.now) (q : Quiet x) (hT : mGet x.now (nmT n) = none) (hl : 0 < nparts l) (hf : (nparts l : Int) ≤ free x) :
    ∃ P : List Str, P.length = nparts l ∧ (journal n l x).1 = 0 ∧ Nx (nparts l + 2) x (journal n l x).2 (put (nmJ n) P x.now) := by
  obtain ⟨n1, n2, n3⟩ := nm_ne n
  have hp0 : pgs x.now (nmT n) = [] := by unfold pgs; rw [hT]; rfl
  have hseq := seq_range (partB l) (nparts l) 0
  rw [← List.range_eq_range'] at hseq
  have hpw : partsW l = (List.range (nparts l)).map fun k : Nat => (((k : Nat) : Int), partB l k) := rfl
  rw [← hpw] at hseq
  have hne : partsW l ≠ [] := fun h => by have := partsW_len l; rw [h] at this; simp at this; omega
  obtain ⟨a1, a2⟩ := layW_nx (partsW l) (x := x) (nmT n) q ok (fun p hp => by
    rw [hpw] at hp
    obtain ⟨k, _, rfl⟩ := List.mem_map.1 hp
    exact partB_size l k) (by rw [hp0]; exact hseq.1) (by rw [hp0]; show (newN 0 (partsW l) : Int) ≤ _; rw [hseq.2]; exact hf)
  rw [if_neg hne, hp0] at a2
  have hPl : (laidL (partsW l) []).length = nparts l := by
    have := laidL_len (partsW l) [] hseq.1
    rw [this]; show 0 + newN 0 (partsW l) = _; rw [hseq.2]; omega
  refine ⟨laidL (partsW l) [], hPl, ?_⟩
  generalize laidL (partsW l) [] = P at a2 hPl
  have e1 : ¬ (layW (nmT n) (partsW l) x).1 ≠ 0 := by simp [a1]
  unfold journal
  rw [if_neg e1]
  generalize (layW (nmT n) (partsW l) x).2 = y at a2
  have hgy : mGet y.now (nmT n) = some P := by rw [a2.now, get_put ok, if_pos rfl]
  obtain ⟨b1, b2⟩ := sync_nx a2.q (n := nmT n) (by rw [hgy]; rfl)
  have e2 : ¬ (sync y (nmT n)).1 ≠ 0 := by simp [b1]
  rw [if_neg e2]
  generalize (sync y (nmT n)).2 = z at b2
  obtain ⟨c1, c2⟩ := rename_nx b2.q (n := nmT n) (m := nmJ n) (by rw [b2.now, hgy]; rfl) n3
  refine ⟨c1, ((a2.trans b2).trans c2).cast (by rw [partsW_len]) ?_⟩
  unfold moved
  have : pgs z.now (nmT n) = P := by unfold pgs; rw [b2.now, hgy]; rfl
  rw [this, b2.now, a2.now, del_put ok hT]
theorem lay_nx {x : D} {n : Str} {W : Rw} (ok : SrtF x.now) (q : Quiet x) (hW : W ≠ []) (hz : ∀ p ∈ W, p.2.size ≤ 512) (hs : seqB (pgs x.now n).length W = true) (hf : (newN (pgs x.now n).length W : Int) ≤ free x)
    (hJ : (mGet x.now (nmJ n)).isSome = true) :
    (lay n W x).1 = 0 ∧ Nx (W.length + 2) x (lay n W x).2 (del (nmJ n) (put n (laidL W (pgs x.now n)) x.now)) := by
  obtain ⟨n1, n2, n3⟩ := nm_ne n
  obtain ⟨a1, a2⟩ := layW_nx W (x := x) n q ok hz hs hf
  rw [if_neg hW] at a2
  have e1 : ¬ (layW n W x).1 ≠ 0 := by simp [a1]
  unfold lay
  rw [if_neg e1]
  generalize (layW n W x).2 = y at a2
  have hl1 : lay1 n W y = sync y n := by unfold lay1; rw [if_neg hW]
  rw [hl1]
  obtain ⟨b1, b2⟩ := sync_nx a2.q (n := n) (by rw [a2.now, get_put ok, if_pos rfl]; rfl)
  have e2 : ¬ (sync y n).1 ≠ 0 := by simp [b1]
  rw [if_neg e2]
  generalize (sync y n).2 = z at b2
  obtain ⟨c1, c2⟩ := remove_nx b2.q (n := nmJ n) (by rw [b2.now, a2.now, get_put ok, if_neg n2]; exact hJ)
  exact ⟨c1, ((a2.trans b2).trans c2).cast rfl (by rw [b2.now, a2.now])⟩
theorem commit_nx {x : D} {n : Str} {W : Rw} (ok : SrtF x.now) (q : Quiet x) (hT : mGet x.now (nmT n) = none) (hJ : mGet x.now (nmJ n) = none) (hs : SrtI (W.map (·.1))) :
    (commit n W x).1 = wants (pgs x.now n).length (free x) W ∧ ((commit n W x).1 ≠ 0 ∨ W = [] → (commit n W x).2 = x) ∧
      ((commit n W x).1 = 0 → W ≠ [] → seqB (pgs x.now n).length W = true ∧ Nx (nparts (frameW W) + W.length + 4) x (commit n W x).2 (put n (laidL W (pgs x.now n)) x.now)) := by
  obtain ⟨n1, n2, n3⟩ := nm_ne n
  have hdn : ¬ x.down = true := by rw [q.down]; decide
  have hc : count x n = (pgs x.now n).length := by unfold count; rw [if_neg hdn]
  obtain ⟨s1, s2⟩ := seq_iff W (pgs x.now n).length hs
  unfold commit wants
  rw [if_neg hdn, hc]
  unfold may
  by_cases hlong : (W.any fun p => decide (512 < p.2.size)) = true
  · simp only [hlong, if_true]
    rw [if_pos (.inl (by decide))]
    exact ⟨rfl, fun _ => rfl, fun h => by cases h⟩
  · simp only [hlong, if_false, Bool.false_eq_true]
    have hz : ∀ p ∈ W, p.2.size ≤ 512 := fun p hp => Nat.le_of_not_lt fun h => hlong (List.any_eq_true.2 ⟨p, hp, by simp [h]⟩)
    by_cases hbad : (W.any fun p => decide (p.1 < 0) || decide (p.1 ≥ ((pgs x.now n).length : Int) + fresh (pgs x.now n).length W)) = true
    · have hns : seqB (pgs x.now n).length W = false := by
        cases hsb : seqB (pgs x.now n).length W with
        | false => rfl
        | true =>
          exfalso
          obtain ⟨p, hp, hp2⟩ := List.any_eq_true.1 hbad
          have := s1.1 hsb p hp
          simp only [Bool.or_eq_true, decide_eq_true_eq] at hp2
          omega
      simp only [hbad, hns, if_true, Bool.not_false]
      rw [if_pos (.inl (by decide))]
      exact ⟨rfl, fun _ => rfl, fun h => by cases h⟩
    · have hns : seqB (pgs x.now n).length W = true := s1.2 fun p hp => by
        have hb : ¬ ((decide (p.1 < 0) || decide (p.1 ≥ ((pgs x.now n).length : Int) + fresh (pgs x.now n).length W)) = true) := fun h => hbad (List.any_eq_true.2 ⟨p, hp, h⟩)
        simp only [Bool.or_eq_true, decide_eq_true_eq] at hb
        omega
      have hnew := s2 hns
      simp only [hbad, hns, if_false, Bool.not_true, Bool.false_eq_true]
      by_cases hW : W = []
      · rw [if_pos (.inr hW), if_pos hW]
        exact ⟨rfl, fun _ => rfl, fun _ h => absurd hW h⟩
      · rw [if_neg (by simp [hW]), if_neg hW]
        rw [← hnew]
        by_cases hf : free x < (nparts (frameW W) : Int) + newN (pgs x.now n).length W
        · rw [if_pos hf, if_pos hf]
          exact ⟨rfl, fun _ => rfl, fun h => by cases h⟩
        · rw [if_neg hf, if_neg hf]
          obtain ⟨P, hP, j1, j2⟩ := journal_nx (n := n) (l := frameW W) ok q hT (frameW_pos W) (by omega)
          have e1 : ¬ (journal n (frameW W) x).1 ≠ 0 := by simp [j1]
          rw [if_neg e1]
          generalize (journal n (frameW W) x).2 = y at j2
          have hpy : pgs y.now n = pgs x.now n := by unfold pgs; rw [j2.now, get_put ok, if_neg (Ne.symm n2)]
          have hfy : free y + nparts (frameW W) = free x := by
            have ht := tot_put ok (nmJ n) P
            have : pgs x.now (nmJ n) = [] := by unfold pgs; rw [hJ]; rfl
            rw [this, hP] at ht
            simp only [List.length_nil] at ht
            unfold free; rw [j2.room, j2.now]; omega
          have oky : SrtF y.now := by rw [j2.now]; exact srt_put ok _ _
          obtain ⟨l1, l2⟩ := lay_nx (n := n) (W := W) oky j2.q hW hz (by rw [hpy]; exact hns) (by rw [hpy]; omega) (by rw [j2.now, get_put ok, if_pos rfl]; rfl)
          refine ⟨l1, fun h => ?_, fun _ _ => ⟨trivial, (j2.trans l2).cast (by omega) ?_⟩⟩
          · exact h.elim (fun h => absurd l1 h) fun h => absurd h hW
          · rw [hpy, j2.now]
            refine fs_ext (srt_del (srt_put (srt_put ok _ _) _ _) _) (srt_put ok _ _) fun r => ?_
            rw [get_del, get_put (srt_put ok _ _), get_put ok, get_put ok]
            by_cases e : r = nmJ n
            · subst e; rw [if_pos rfl, if_neg n2, hJ]
            · rw [if_neg e, if_neg e]
end Go.Pg
end
