/-
  Texts of this seat, laid one behind the other: DkA DkB DkC0 DkC3 CdA. Conditions: none.
-/
import Derived.Test.YtmdcfmhkfomoaaaGreatDoorZV
import Derived.Laws.Bits64b
section
set_option linter.unusedSimpArgs false
set_option linter.unusedVariables false
namespace Go.Dk
open Go Go.Vc

abbrev Str := ByteArray
/- strings are ordered -/
theorem bl_irrefl : ∀ l : List UInt8, Op.bytesLess l l = false
  | [] => rfl
  | a :: l => by simp [Op.bytesLess, bl_irrefl l]
theorem bl_trans : ∀ x y z : List UInt8, Op.bytesLess x y = true → Op.bytesLess y z = true → Op.bytesLess x z = true
  | _, [], _, h, _ => by simp [Op.bytesLess] at h
  | _, _ :: _, [], _, h => by simp [Op.bytesLess] at h
  | [], _ :: _, _ :: _, _, _ => rfl
  | a :: x, b :: y, c :: z, h1, h2 => by
    simp only [Op.bytesLess, Bool.or_eq_true, Bool.and_eq_true, decide_eq_true_eq, beq_iff_eq] at *
    rcases h1 with h1 | ⟨rfl, h1⟩
    · rcases h2 with h2 | ⟨rfl, h2⟩
      · exact .inl (UInt8.lt_trans h1 h2)
      · exact .inl h1
    · rcases h2 with h2 | ⟨rfl, h2⟩
      · exact .inl h2
      · exact .inr ⟨rfl, bl_trans x y z h1 h2⟩
theorem bl_total : ∀ x y : List UInt8, Op.bytesLess x y = false → Op.bytesLess y x = false → x = y
  | [], [], _, _ => rfl
  | [], _ :: _, h, _ => by simp [Op.bytesLess] at h
  | _ :: _, [], _, h => by simp [Op.bytesLess] at h
  | a :: x, b :: y, h1, h2 => by
    simp only [Op.bytesLess, Bool.or_eq_false_iff, Bool.and_eq_false_iff, decide_eq_false_iff_not, beq_eq_false_iff_ne] at *
    have e : a = b := UInt8.le_antisymm (UInt8.not_lt.1 h2.1) (UInt8.not_lt.1 h1.1)
    subst e
    rw [bl_total x y (h1.2.resolve_left (by simp)) (h2.2.resolve_left (by simp))]
abbrev lt (a b : Str) : Bool := Op.bytesLess a.toList b.toList
theorem str_ext {a b : Str} (h : a.toList = b.toList) : a = b := by
  rw [ByteArray.toList_eq, ByteArray.toList_eq] at h
  cases a with | mk x => cases b with | mk y => congr 1; exact Array.toList_inj.1 h
theorem lt_irrefl (a : Str) : lt a a = false := bl_irrefl _
theorem lt_trans {a b c : Str} (h : lt a b = true) (k : lt b c = true) : lt a c = true := bl_trans _ _ _ h k
theorem lt_total {a b : Str} (h : lt a b = false) (k : lt b a = false) : a = b := str_ext (bl_total _ _ h k)
theorem lt_asymm {a b : Str} (h : lt a b = true) : lt b a = false := by
  cases k : lt b a with
  | false => rfl
  | true => have := lt_trans h k; rw [lt_irrefl] at this; cases this
theorem eq_beq {a b : Str} : (a.toList == b.toList) = true ↔ a = b := ⟨fun h => str_ext (by simpa using h), fun h => by subst h; simp⟩
theorem beq_dec' (a b : Str) : (a.toList == b.toList) = decide (a = b) := by
  by_cases h : a = b
  · subst h; simp
  · rw [decide_eq_false h]; cases k : a.toList == b.toList with | false => rfl | true => exact absurd (eq_beq.1 k) h
theorem ne_of_lt {a b : Str} (h : lt a b = true) : a ≠ b := fun e => by subst e; rw [lt_irrefl] at h; cases h
abbrev Srt (l : List Str) : Prop := l.Pairwise fun a b => lt a b = true
theorem srt_nodup {l : List Str} (h : Srt l) : l.Nodup := h.imp fun h => ne_of_lt h
theorem srt_ext : ∀ {l m : List Str}, Srt l → Srt m → (∀ k, k ∈ l ↔ k ∈ m) → l = m
  | [], [], _, _, _ => rfl
  | [], b :: m, _, _, h => by have := (h b).2 List.mem_cons_self; cases this
  | a :: l, [], _, _, h => by have := (h a).1 List.mem_cons_self; cases this
  | a :: l, b :: m, hl, hm, h => by
    have pl := List.pairwise_cons.1 hl
    have pm := List.pairwise_cons.1 hm
    have e : a = b := by
      rcases List.mem_cons.1 ((h a).1 List.mem_cons_self) with e | h1
      · exact e
      rcases List.mem_cons.1 ((h b).2 List.mem_cons_self) with e | h2
      · exact e.symm
      · have := lt_trans (pl.1 _ h2) (pm.1 _ h1); rw [lt_irrefl] at this; cases this
    subst e
    rw [srt_ext pl.2 pm.2 fun k => ?_]
    constructor
    · intro hk
      rcases List.mem_cons.1 ((h k).1 (List.mem_cons_of_mem _ hk)) with e | h1
      · subst e; have := pl.1 _ hk; rw [lt_irrefl] at this; cases this
      · exact h1
    · intro hk
      rcases List.mem_cons.1 ((h k).2 (List.mem_cons_of_mem _ hk)) with e | h1
      · subst e; have := pm.1 _ hk; rw [lt_irrefl] at this; cases this
      · exact h1

/- ------------------------------------------------------------------ files -/

abbrev Fs := List (Str × List Str)
abbrev names (F : Fs) : List Str := mKeys F
def SrtF (F : Fs) : Prop := Srt (names F)

/-- one file is this, in its place by rising names. -/
def put (n : Str) (l : List Str) : Fs → Fs
  | [] => [(n, l)]
  | p :: F => if p.1 = n then (n, l) :: F else if lt n p.1 then (n, l) :: p :: F else p :: put n l F
def del (n : Str) (F : Fs) : Fs := F.filter fun p => decide (p.1 ≠ n)
def tot (F : Fs) : Nat := (F.map fun p => p.2.length).sum
def pgs (F : Fs) (n : Str) : List Str := (mGet F n).getD []

theorem names_put (n : Str) (l : List Str) : ∀ (F : Fs) (q : Str), q ∈ names (put n l F) ↔ q = n ∨ q ∈ names F
  | [], q => by simp [put, mKeys]
  | p :: F, q => by
    unfold put
    by_cases h : p.1 = n
    · subst h; simp [mKeys]
    · rw [if_neg h]
      by_cases h2 : lt n p.1 = true
      · rw [if_pos h2]; simp [mKeys]
      · rw [if_neg h2]
        have ih := names_put n l F q
        simp only [mKeys, List.map_cons, List.mem_cons] at ih ⊢
        rw [ih]
        exact ⟨fun h => h.elim (fun h => .inr (.inl h)) (fun h => h.elim .inl (fun h => .inr (.inr h))), fun h => h.elim (fun h => .inr (.inl h)) (fun h => h.elim .inl (fun h => .inr (.inr h)))⟩
theorem srt_put {F : Fs} (h : SrtF F) (n : Str) (l : List Str) : SrtF (put n l F) := by
  induction F with
  | nil => simp [put, SrtF, mKeys]
  | cons p F ih =>
    have hp := List.pairwise_cons.1 h
    unfold put
    by_cases h1 : p.1 = n
    · subst h1; rw [if_pos rfl]; exact h
    · rw [if_neg h1]
      by_cases h2 : lt n p.1 = true
      · rw [if_pos h2]
        refine List.pairwise_cons.2 ⟨fun k hk => ?_, h⟩
        rcases List.mem_cons.1 hk with rfl | hk
        · exact h2
        · exact lt_trans h2 (hp.1 k hk)
      · rw [if_neg h2]
        refine List.pairwise_cons.2 ⟨fun k hk => ?_, ih hp.2⟩
        rcases (names_put n l F k).1 hk with rfl | hk
        · cases h3 : lt p.1 k with
          | true => rfl
          | false => exact absurd (lt_total h3 (by simpa using h2)) h1
        · exact hp.1 k hk
theorem get_none_of_lt {F : Fs} {n : Str} (h : ∀ q ∈ names F, lt n q = true) : mGet F n = none :=
  mGet_none.2 fun hm => by have := h n hm; rw [lt_irrefl] at this; cases this
theorem get_put {F : Fs} (h : SrtF F) (n : Str) (l : List Str) (q : Str) : mGet (put n l F) q = if q = n then some l else mGet F q := by
  induction F with
  | nil => by_cases e : q = n <;> simp [put, mGet, e]; exact fun h => e h.symm
  | cons p F ih =>
    have hp := List.pairwise_cons.1 h
    unfold put
    by_cases h1 : p.1 = n
    · subst h1; rw [if_pos rfl]; by_cases e : q = p.1
      · subst e; simp [mGet]
      · simp [mGet, e, Ne.symm e]
    · rw [if_neg h1]
      by_cases h2 : lt n p.1 = true
      · rw [if_pos h2]
        by_cases e : q = n
        · subst e; simp [mGet]
        · simp [mGet, e, Ne.symm e]
      · rw [if_neg h2]
        by_cases e : p.1 = q
        · subst e; simp [mGet, h1]
        · rw [mGet, if_neg e, ih hp.2, mGet, if_neg e]
theorem names_del (n : Str) (F : Fs) (q : Str) : q ∈ names (del n F) ↔ q ≠ n ∧ q ∈ names F := by
  simp only [mKeys, del, List.mem_map, List.mem_filter, decide_eq_true_eq]
  constructor
  · rintro ⟨p, ⟨h1, h2⟩, rfl⟩; exact ⟨h2, p, h1, rfl⟩
  · rintro ⟨h1, p, h2, rfl⟩; exact ⟨p, ⟨h2, h1⟩, rfl⟩
theorem srt_del {F : Fs} (h : SrtF F) (n : Str) : SrtF (del n F) := List.Pairwise.sublist (List.filter_sublist.map _) h
theorem get_del {F : Fs} (n q : Str) : mGet (del n F) q = if q = n then none else mGet F q := by
  induction F with
  | nil => simp [del, mGet]
  | cons p F ih =>
    simp only [del, List.filter_cons] at ih ⊢
    by_cases h : p.1 = n
    · simp only [h, ne_eq, not_true_eq_false, decide_false, Bool.false_eq_true, if_false, ih]
      by_cases e : q = n
      · simp [e]
      · simp [e, mGet, h, Ne.symm e]
    · simp only [h, ne_eq, not_false_eq_true, decide_true, if_true, mGet, ih]
      by_cases e : p.1 = q
      · subst e; simp [h]
      · simp [e]

/-- two lists by rising names that answer the same are the same. -/
theorem fs_ext : ∀ {F G : Fs}, SrtF F → SrtF G → (∀ q, mGet F q = mGet G q) → F = G
  | [], [], _, _, _ => rfl
  | [], b :: G, _, _, h => by have := h b.1; simp [mGet] at this
  | a :: F, [], _, _, h => by have := h a.1; simp [mGet] at this
  | a :: F, b :: G, hF, hG, h => by
    have pF := List.pairwise_cons.1 hF
    have pG := List.pairwise_cons.1 hG
    have e : names (a :: F) = names (b :: G) := srt_ext hF hG fun k => by
      rw [← Classical.not_not (a := k ∈ names (a :: F)), ← Classical.not_not (a := k ∈ names (b :: G)), ← mGet_none, ← mGet_none, h k]
    have e1 : a.1 = b.1 := by simp [mKeys] at e; exact e.1
    have e2 : a.2 = b.2 := by have := h a.1; simp [mGet, e1] at this; exact this
    have : a = b := Prod.ext e1 e2
    subst this
    rw [fs_ext pF.2 pG.2 fun q => ?_]
    by_cases hq : a.1 = q
    · subst hq
      rw [get_none_of_lt (F := F) (fun q hq => pF.1 q hq), get_none_of_lt (F := G) (fun q hq => pG.1 q hq)]
    · have := h q; simpa [mGet, hq] using this

theorem tot_put {F : Fs} (h : SrtF F) (n : Str) (l : List Str) : tot (put n l F) + (pgs F n).length = tot F + l.length := by
  induction F with
  | nil => simp [put, tot, pgs, mGet]
  | cons p F ih =>
    have hp := List.pairwise_cons.1 h
    unfold put
    by_cases h1 : p.1 = n
    · subst h1; rw [if_pos rfl]; simp [tot, pgs, mGet]; omega
    · rw [if_neg h1]
      by_cases h2 : lt n p.1 = true
      · rw [if_pos h2]
        have : mGet F n = none := get_none_of_lt fun q hq => lt_trans h2 (hp.1 q hq)
        simp [tot, pgs, mGet, h1, this]; omega
      · rw [if_neg h2]
        have := ih hp.2
        simp only [tot, pgs, mGet, if_neg h1, List.map_cons, List.sum_cons] at this ⊢
        omega
theorem tot_del {F : Fs} (h : SrtF F) (n : Str) : tot (del n F) + (pgs F n).length = tot F := by
  induction F with
  | nil => simp [del, tot, pgs, mGet]
  | cons p F ih =>
    have hp := List.pairwise_cons.1 h
    have := ih hp.2
    by_cases h1 : p.1 = n
    · have hg : mGet F n = none := get_none_of_lt fun q hq => h1 ▸ hp.1 q hq
      simp [tot, pgs, hg, del] at this
      simp [tot, pgs, mGet, h1, del]
      omega
    · have e : mGet (p :: F) n = mGet F n := by rw [mGet, if_neg h1]
      simp only [tot, pgs, e, del, List.filter_cons, ne_eq, h1, not_false_eq_true, decide_true, if_true, List.map_cons, List.sum_cons] at this ⊢
      omega

/- ------------------------------------------------------------------ the disk -/

def zp : Str := ⟨Array.replicate 512 0⟩
/-- a page's bytes, filled up by noughts. -/
def pad (b : Str) : Str := ⟨b.data ++ Array.replicate (512 - b.size) 0⟩
/-- a file with a page, and noughts ahead of it. -/
def setP (l : List Str) (i : Nat) (p : Str) : List Str := (l ++ List.replicate (i + 1 - l.length) zp).set i p

structure Wt where
  n : Str
  i : Nat
  p : Str

structure D where
  now : Fs
  safe : Fs
  waits : List Wt
  room : Nat
  down : Bool
  acts : Int
  fuse : Nat
  keep : Int

def free (d : D) : Int := d.room - tot d.now
/-- is the i-th write kept? -/
def kept (keep : Int) (i : Nat) : Bool := (keep.toNat >>> (i % 64)) % 2 == 1
def app1 (F : Fs) (w : Wt) : Fs := put w.n (setP (pgs F w.n) w.i w.p) F
def keepW (keep : Int) : Nat → List Wt → Fs → Fs
  | _, [], F => F
  | i, w :: ws, F => keepW keep (i + 1) ws (if kept keep i then app1 F w else F)
def addN (F : Fs) (n : Str) : Fs := match mGet F n with | some _ => F | none => put n [] F
def offS (keep : Int) (d : D) : Fs := (names d.now).foldl addN (keepW keep 0 d.waits d.safe)
def off (keep : Int) (d : D) : D := if d.down then d else { d with now := offS keep d, safe := offS keep d, waits := [], down := true, fuse := 0 }
def act (d : D) : D := { d with acts := IntKind.i64.wrap (d.acts + 1), fuse := d.fuse - 1 }
def goes (d : D) : Bool := d.fuse == 1
/-- an act: the power may go in it. -/
def ended (d : D) : Int × D := if goes d then (8, off (act d).keep (act d)) else (0, act d)
def write (d : D) (n : Str) (i : Int) (b : Str) : Int × D :=
  if d.down then (8, d) else if 512 < b.size then (3, d) else if i < 0 ∨ (pgs d.now n).length < i then (1, d) else
  if i = (pgs d.now n).length ∧ free d < 1 then (7, d) else
  let d1 : D := { act d with now := put n (setP (pgs d.now n) i.toNat (pad b)) d.now, waits := d.waits ++ [⟨n, i.toNat, pad b⟩] }
  if goes d then (8, off d1.keep d1) else (0, d1)
def has (d : D) (n : Str) : Bool := !d.down && (mGet d.now n).isSome
def may (d : D) (n : Str) : Int × D :=
  if d.down then (8, d) else match mGet d.now n with | none => (5, d) | some _ => ended d
def drop (ws : List Wt) (n : Str) (k : Int) : List Wt := ws.filter fun w => !(decide (w.n = n) && decide (k ≤ (w.i : Int)))
def sync (d : D) (n : Str) : Int × D := match may d n with
  | (e, d1) => if e = 0 then (0, { d1 with safe := put n (pgs d1.now n) d1.safe, waits := drop d1.waits n 0 }) else (e, d1)
def cut (d : D) (n : Str) (k : Int) : Int × D :=
  if !d.down && (mGet d.now n).isSome && decide (k < 0) then (1, d) else match may d n with
  | (e, d1) => if e = 0 then (0, { d1 with now := put n ((pgs d1.now n).take k.toNat) d1.now, safe := put n ((pgs d1.safe n).take k.toNat) d1.safe, waits := drop d1.waits n k }) else (e, d1)
def moved (a b : Str) (F : Fs) : Fs := put b (pgs F a) (del a F)
def turnW (a b : Str) (w : Wt) : Wt := if w.n = a then { w with n := b } else w
def rename (d : D) (a b : Str) : Int × D := match may d a with
  | (e, d1) => if e = 0 ∧ a ≠ b then (0, { d1 with now := moved a b d1.now, safe := moved a b d1.safe, waits := (drop d1.waits b 0).map (turnW a b) }) else (e, d1)
def remove (d : D) (n : Str) : Int × D := match may d n with
  | (e, d1) => if e = 0 then (0, { d1 with now := del n d1.now, safe := del n d1.safe, waits := drop d1.waits n 0 }) else (e, d1)
def namesD (d : D) : List Str := if d.down then [] else names d.now
def count (d : D) (n : Str) : Nat := if d.down then 0 else (pgs d.now n).length
def read (d : D) (n : Str) (i : Int) : Str × Int :=
  if d.down then (⟨#[]⟩, 8) else if i < 0 ∨ ((pgs d.now n).length : Int) ≤ i then (⟨#[]⟩, 5) else ((pgs d.now n).getD i.toNat zp, 0)
def arm (d : D) (n keep : Int) : D := { d with fuse := n.toNat, keep := keep }
def on (d : D) : D := { d with down := false }
def new (room : Int) : D := { now := [], safe := [], waits := [], room := (min (max room 0) 4096).toNat, down := false, acts := 0, fuse := 0, keep := 0 }

/-- what always holds of a disk. -/
structure Ok (d : D) : Prop where
  now : SrtF d.now
  safe : SrtF d.safe
  room : d.room ≤ 4096
  tot : tot d.now ≤ d.room
  fewer : ∀ n, (pgs d.safe n).length ≤ (pgs d.now n).length
  waits : ∀ w ∈ d.waits, w.i < (pgs d.now w.n).length ∧ w.p.size = 512
  pnow : ∀ n, ∀ p ∈ pgs d.now n, p.size = 512
  psafe : ∀ n, ∀ p ∈ pgs d.safe n, p.size = 512
  fuse : d.fuse ≤ 9223372036854775807
  keep : 0 ≤ d.keep ∧ d.keep < 18446744073709551616
end Go.Dk
end

section
set_option linter.unusedSimpArgs false
set_option linter.unusedVariables false
namespace Go.Dk
open Go Go.Vc

theorem setP_len (l : List Str) (i : Nat) (p : Str) : (setP l i p).length = max l.length (i + 1) := by simp [setP]; omega
theorem setP_mem {l : List Str} {i : Nat} {p q : Str} (h : q ∈ setP l i p) : q = p ∨ q = zp ∨ q ∈ l := by
  unfold setP at h
  rcases List.mem_or_eq_of_mem_set h with h | h
  · rcases List.mem_append.1 h with h | h
    · exact .inr (.inr h)
    · exact .inr (.inl (List.mem_replicate.1 h).2)
  · exact .inl h
theorem zp_size : zp.size = 512 := by show (Array.replicate 512 (0 : UInt8)).size = 512; simp
theorem pad_size {b : Str} (h : b.size ≤ 512) : (pad b).size = 512 := by
  show (b.data ++ Array.replicate (512 - b.size) (0 : UInt8)).size = 512
  have : b.data.size = b.size := rfl
  simp; omega
theorem pgs_put {F : Fs} (h : SrtF F) (n : Str) (l : List Str) (q : Str) : pgs (put n l F) q = if q = n then l else pgs F q := by
  unfold pgs; rw [get_put h]; split <;> rfl
theorem pgs_del (F : Fs) (n q : Str) : pgs (del n F) q = if q = n then [] else pgs F q := by
  unfold pgs; rw [get_del]; split <;> rfl

/- ------------------------------------------------------------------ which writes are kept -/

theorem keepW_take (keep : Int) : ∀ (ws : List Wt) (i k : Nat) (F : Fs) (w : Wt), ws[k]? = some w →
    keepW keep i (ws.take (k + 1)) F = if kept keep (i + k) then app1 (keepW keep i (ws.take k) F) w else keepW keep i (ws.take k) F
  | [], i, k, F, w, h => by simp at h
  | a :: ws, i, 0, F, w, h => by simp at h; subst h; simp [keepW]
  | a :: ws, i, k + 1, F, w, h => by
    have := keepW_take keep ws (i + 1) k (if kept keep i then app1 F a else F) w (by simpa using h)
    rw [show i + (k + 1) = i + 1 + k by omega]
    simpa [keepW] using this

theorem kept_eq {keep : Int} (hk : 0 ≤ keep ∧ keep < 18446744073709551616) (k : Nat) :
    (IntKind.u64.wrap (((BitVec.ofInt 64 (keep.fdiv ((2 : Int) ^ min ((k : Int).tmod 64).toNat 64)) &&& BitVec.ofInt 64 1).toNat : Nat) : Int) == (1 : Int)) = kept keep k := by
  obtain ⟨n, rfl⟩ := Int.eq_ofNat_of_zero_le hk.1
  have e1 : (((k : Int).tmod 64).toNat) = k % 64 := by rw [Int.tmod_eq_emod_of_nonneg (by omega)]; omega
  have e2 : min (k % 64) 64 = k % 64 := by omega
  have e3 : ((n : Int).fdiv ((2 : Int) ^ (k % 64))) = ((n >>> (k % 64) : Nat) : Int) := by
    rw [Nat.shiftRight_eq_div_pow, Int.fdiv_eq_ediv_of_nonneg _ (Int.le_of_lt (Int.pow_pos (by decide)))]
    simp
  rw [e1, e2, e3]
  have hlt : n >>> (k % 64) < 18446744073709551616 := by
    have : n >>> (k % 64) ≤ n := by rw [Nat.shiftRight_eq_div_pow]; exact Nat.div_le_self _ _
    omega
  have := bits_and_u64_nat (n >>> (k % 64)) 1 hlt (by omega)
  have hb : IntKind.u64.wrap (((BitVec.ofInt 64 ((n >>> (k % 64) : Nat) : Int) &&& BitVec.ofInt 64 1).toNat : Nat) : Int) = ((n >>> (k % 64) &&& 1 : Nat) : Int) := this
  rw [hb, Nat.and_one_is_mod]
  unfold kept
  simp only [Int.toNat_natCast]
  generalize n >>> (k % 64) % 2 = m
  by_cases h : m = 1
  · subst h; rfl
  · rw [beq_eq_false_iff_ne.2 (by omega), beq_eq_false_iff_ne.2 (by omega)]

/- ------------------------------------------------------------------ names that are there -/

theorem get_addN (F : Fs) (h : SrtF F) (n q : Str) : mGet (addN F n) q = match mGet F q with | some l => some l | none => if q = n then some [] else none := by
  unfold addN
  cases hn : mGet F n with
  | some l =>
    cases hq : mGet F q with
    | some l' => simp [hq]
    | none =>
      have : q ≠ n := fun e => by subst e; rw [hn] at hq; cases hq
      simp [hq, this]
  | none =>
    rw [get_put h]
    by_cases e : q = n
    · subst e; simp [hn]
    · rw [if_neg e]; cases mGet F q <;> simp [e]
theorem addN_none {F : Fs} {n : Str} (h : mGet F n = none) : addN F n = put n [] F := by unfold addN; rw [h]
theorem addN_some {F : Fs} {n : Str} (h : (mGet F n).isSome = true) : addN F n = F := by unfold addN; cases hg : mGet F n with | some _ => rfl | none => rw [hg] at h; cases h
theorem srt_addN {F : Fs} (h : SrtF F) (n : Str) : SrtF (addN F n) := by
  unfold addN; cases mGet F n with | some _ => exact h | none => exact srt_put h _ _
theorem srt_addAll : ∀ (l : List Str) {F : Fs}, SrtF F → SrtF (l.foldl addN F)
  | [], _, h => h
  | n :: l, _, h => srt_addAll l (srt_addN h n)
open Classical in
theorem get_addAll : ∀ (l : List Str) (F : Fs), SrtF F → ∀ q, mGet (l.foldl addN F) q = match mGet F q with | some x => some x | none => if q ∈ l then some [] else none
  | [], F, _, q => by cases h : mGet F q <;> simp [h]
  | n :: l, F, h, q => by
    rw [List.foldl_cons, get_addAll l _ (srt_addN h n), get_addN F h]
    cases hq : mGet F q with
    | some x => rfl
    | none =>
      by_cases e : q = n
      · subst e; simp
      · simp [e]
theorem addAll_ext {l m : List Str} {F : Fs} (h : SrtF F) (hm : ∀ q, q ∈ l ↔ q ∈ m) : l.foldl addN F = m.foldl addN F :=
  fs_ext (srt_addAll l h) (srt_addAll m h) fun q => by
    rw [get_addAll l F h, get_addAll m F h]
    cases mGet F q with
    | some x => rfl
    | none =>
      by_cases h1 : q ∈ m
      · rw [if_pos h1, if_pos ((hm q).2 h1)]
      · rw [if_neg h1, if_neg fun h2 => h1 ((hm q).1 h2)]
theorem pgs_addN (F : Fs) (h : SrtF F) (n q : Str) : pgs (addN F n) q = pgs F q := by
  unfold pgs; rw [get_addN F h]; cases mGet F q with | some _ => rfl | none => dsimp only; split <;> rfl
theorem pgs_addAll : ∀ (l : List Str) (F : Fs), SrtF F → ∀ q, pgs (l.foldl addN F) q = pgs F q
  | [], _, _, _ => rfl
  | n :: l, F, h, q => by rw [List.foldl_cons, pgs_addAll l _ (srt_addN h n), pgs_addN F h]

/- ------------------------------------------------------------------ what always holds, still -/

theorem ok_safe {x : D} (h : Ok x) {G : Fs} (hs : SrtF G) (hf : ∀ n, (pgs G n).length ≤ (pgs x.now n).length) (hp : ∀ n, ∀ p ∈ pgs G n, p.size = 512) : Ok { x with safe := G } :=
  ⟨h.now, hs, h.room, h.tot, hf, h.waits, h.pnow, hp, h.fuse, h.keep⟩
theorem ok_app1 {x : D} (h : Ok x) {w : Wt} (hw : w ∈ x.waits) : Ok { x with safe := app1 x.safe w } := by
  obtain ⟨h1, h2⟩ := h.waits w hw
  refine ok_safe h (srt_put h.safe _ _) (fun n => ?_) fun n p hp => ?_
  · unfold app1; rw [pgs_put h.safe]
    split
    · rename_i e; subst e; rw [setP_len]; have := h.fewer w.n; omega
    · exact h.fewer n
  · unfold app1 at hp; rw [pgs_put h.safe] at hp
    split at hp
    · rcases setP_mem hp with rfl | rfl | hp
      · exact h2
      · exact zp_size
      · exact h.psafe _ _ hp
    · exact h.psafe _ _ hp
theorem ok_addN {x : D} (h : Ok x) (n : Str) : Ok { x with safe := addN x.safe n } :=
  ok_safe h (srt_addN h.safe n) (fun q => by rw [pgs_addN _ h.safe]; exact h.fewer q) fun q p hp => by rw [pgs_addN _ h.safe] at hp; exact h.psafe q p hp
theorem ok_addAll : ∀ (l : List Str) {x : D}, Ok x → Ok { x with safe := l.foldl addN x.safe }
  | [], _, h => h
  | n :: l, x, h => ok_addAll l (ok_addN h n)
theorem ok_keepW {x : D} (keep : Int) : ∀ (ws : List Wt) (i : Nat) {G : Fs}, Ok { x with safe := G } → (∀ w ∈ ws, w ∈ x.waits) → Ok { x with safe := keepW keep i ws G }
  | [], _, _, h, _ => h
  | w :: ws, i, G, h, hw => by
    have h2 : Ok { x with safe := app1 G w } := ok_app1 h (w := w) (hw w List.mem_cons_self)
    unfold keepW
    split
    · exact ok_keepW keep ws (i + 1) h2 fun w h => hw w (List.mem_cons_of_mem _ h)
    · exact ok_keepW keep ws (i + 1) h fun w h => hw w (List.mem_cons_of_mem _ h)
theorem ok_offS {x : D} (h : Ok x) (keep : Int) : Ok { x with safe := offS keep x } :=
  ok_addAll (names x.now) (ok_keepW keep x.waits 0 (G := x.safe) h fun _ h => h)
theorem ok_act {x : D} (h : Ok x) : Ok (act x) := ⟨h.now, h.safe, h.room, h.tot, h.fewer, h.waits, h.pnow, h.psafe, by show x.fuse - 1 ≤ _; have := h.fuse; omega, h.keep⟩
theorem ok_write {x : D} (h : Ok x) {s b : Str} {k : Nat} (hk : k ≤ (pgs x.now s).length) (hb : b.size ≤ 512) (hf : k = (pgs x.now s).length → 1 ≤ free x) :
    Ok { act x with now := put s (setP (pgs x.now s) k (pad b)) x.now, waits := x.waits ++ [⟨s, k, pad b⟩] } := by
  have hl : ∀ n, (pgs x.now n).length ≤ (pgs (put s (setP (pgs x.now s) k (pad b)) x.now) n).length := fun n => by
    rw [pgs_put h.now]
    split
    · rename_i e; subst e; rw [setP_len]; omega
    · exact Nat.le_refl _
  have a := ok_act h
  refine ⟨srt_put h.now _ _, h.safe, h.room, ?_, fun n => Nat.le_trans (h.fewer n) (hl n), fun w hw => ?_, fun n p hp => ?_, h.psafe, a.fuse, h.keep⟩
  · have h1 := tot_put h.now s (setP (pgs x.now s) k (pad b))
    rw [setP_len] at h1
    have h2 := h.tot
    show Dk.tot (put s (setP (pgs x.now s) k (pad b)) x.now) ≤ x.room
    by_cases e : k = (pgs x.now s).length
    · have := hf e; unfold free at this; omega
    · omega
  · rcases List.mem_append.1 hw with hw | hw
    · exact ⟨Nat.lt_of_lt_of_le (h.waits w hw).1 (hl w.n), (h.waits w hw).2⟩
    · simp only [List.mem_singleton] at hw
      subst hw
      refine ⟨?_, pad_size hb⟩
      show k < (pgs (put s (setP (pgs x.now s) k (pad b)) x.now) s).length
      rw [pgs_put h.now, if_pos rfl, setP_len]; omega
  · have hp : p ∈ pgs (put s (setP (pgs x.now s) k (pad b)) x.now) n := hp
    rw [pgs_put h.now] at hp
    split at hp
    · rcases setP_mem hp with rfl | rfl | hp
      · exact pad_size hb
      · exact zp_size
      · exact h.pnow _ _ hp
    · exact h.pnow _ _ hp
theorem tot_le : ∀ {F G : Fs}, SrtF F → SrtF G → (∀ n, (pgs F n).length ≤ (pgs G n).length) → tot F ≤ tot G
  | [], _, _, _, _ => Nat.zero_le _
  | p :: F, G, hF, hG, h => by
    have pF := List.pairwise_cons.1 hF
    have ih : tot F ≤ tot (del p.1 G) := tot_le pF.2 (srt_del hG _) fun n => by
      rw [pgs_del]
      by_cases e : n = p.1
      · subst e
        rw [if_pos rfl]
        have : mGet F p.1 = none := get_none_of_lt fun q hq => pF.1 q hq
        simp [pgs, this]
      · have := h n
        rw [if_neg e]
        simpa [pgs, mGet, Ne.symm e] using this
    have h1 := tot_del hG p.1
    have h2 : p.2.length ≤ (pgs G p.1).length := by have := h p.1; simpa [pgs, mGet] using this
    have h3 : tot (p :: F) = p.2.length + tot F := by simp [tot]
    omega
theorem ok_off {x : D} (h : Ok x) (keep : Int) : Ok (off keep x) := by
  unfold off
  split
  · exact h
  · have o := ok_offS h keep
    exact ⟨o.safe, o.safe, h.room, Nat.le_trans (tot_le o.safe h.now o.fewer) h.tot, fun _ => Nat.le_refl _, fun w hw => (by cases hw), o.psafe, o.psafe, Nat.zero_le _, h.keep⟩
end Go.Dk
end

section
set_option linter.unusedSimpArgs false
set_option linter.unusedVariables false
namespace Go.Dk
open Go Go.Vc

theorem mem_drop {ws : List Wt} {s : Str} {k : Int} {w : Wt} (h : w ∈ drop ws s k) : w ∈ ws ∧ ¬ (w.n = s ∧ k ≤ (w.i : Int)) := by
  unfold drop at h
  obtain ⟨h1, h2⟩ := List.mem_filter.1 h
  refine ⟨h1, fun h3 => ?_⟩
  rw [decide_eq_true h3.1, decide_eq_true h3.2] at h2
  cases h2
theorem ok_remove {x : D} (h : Ok x) (s : Str) : Ok { x with now := del s x.now, safe := del s x.safe, waits := drop x.waits s 0 } := by
  refine ⟨srt_del h.now _, srt_del h.safe _, h.room, ?_, fun n => ?_, fun w hw => ?_, fun n p hp => ?_, fun n p hp => ?_, h.fuse, h.keep⟩
  · have h1 := tot_del h.now s
    have h2 := h.tot
    show Dk.tot (del s x.now) ≤ x.room
    omega
  · show (pgs (del s x.safe) n).length ≤ (pgs (del s x.now) n).length
    rw [pgs_del, pgs_del]; split
    · exact Nat.le_refl _
    · exact h.fewer n
  · obtain ⟨h1, h2⟩ := mem_drop hw
    have h3 := h.waits w h1
    have h4 : w.n ≠ s := fun e => h2 ⟨e, by omega⟩
    show w.i < (pgs (del s x.now) w.n).length ∧ _
    rw [pgs_del, if_neg h4]; exact h3
  · have hp : p ∈ pgs (del s x.now) n := hp
    rw [pgs_del] at hp; split at hp
    · cases hp
    · exact h.pnow _ _ hp
  · have hp : p ∈ pgs (del s x.safe) n := hp
    rw [pgs_del] at hp; split at hp
    · cases hp
    · exact h.psafe _ _ hp
theorem ok_cut {x : D} (h : Ok x) (s : Str) (k : Nat) : Ok { x with now := put s ((pgs x.now s).take k) x.now, safe := put s ((pgs x.safe s).take k) x.safe, waits := drop x.waits s k } := by
  refine ⟨srt_put h.now _ _, srt_put h.safe _ _, h.room, ?_, fun n => ?_, fun w hw => ?_, fun n p hp => ?_, fun n p hp => ?_, h.fuse, h.keep⟩
  · have h1 := tot_put h.now s ((pgs x.now s).take k)
    have h2 := h.tot
    rw [List.length_take] at h1
    show Dk.tot (put s ((pgs x.now s).take k) x.now) ≤ x.room
    omega
  · show (pgs (put s ((pgs x.safe s).take k) x.safe) n).length ≤ (pgs (put s ((pgs x.now s).take k) x.now) n).length
    rw [pgs_put h.safe, pgs_put h.now]; split
    · rename_i e; have := h.fewer s; simp only [List.length_take]; omega
    · exact h.fewer n
  · obtain ⟨h1, h2⟩ := mem_drop hw
    have h3 := h.waits w h1
    show w.i < (pgs (put s ((pgs x.now s).take k) x.now) w.n).length ∧ _
    rw [pgs_put h.now]; split
    · rename_i e
      have : w.i < k := by by_cases h4 : w.i < k; exact h4; exact absurd ⟨e, by omega⟩ h2
      rw [e] at h3
      simp only [List.length_take]
      exact ⟨by omega, h3.2⟩
    · exact h3
  · have hp : p ∈ pgs (put s ((pgs x.now s).take k) x.now) n := hp
    rw [pgs_put h.now] at hp; split at hp
    · exact h.pnow _ _ (List.mem_of_mem_take hp)
    · exact h.pnow _ _ hp
  · have hp : p ∈ pgs (put s ((pgs x.safe s).take k) x.safe) n := hp
    rw [pgs_put h.safe] at hp; split at hp
    · exact h.psafe _ _ (List.mem_of_mem_take hp)
    · exact h.psafe _ _ hp
theorem put_put {F : Fs} (hF : SrtF F) (n : Str) (a b : List Str) : put n a (put n b F) = put n a F :=
  fs_ext (srt_put (srt_put hF _ _) _ _) (srt_put hF _ _) fun q => by rw [get_put (srt_put hF _ _), get_put hF, get_put hF]; split <;> rfl
theorem del_put {F : Fs} (hF : SrtF F) (n : Str) (a : List Str) : del n (put n a F) = del n F :=
  fs_ext (srt_del (srt_put hF _ _) _) (srt_del hF _) fun q => by rw [get_del, get_del, get_put hF]; split <;> rfl
end Go.Dk
end

section
set_option linter.unusedSimpArgs false
set_option linter.unusedVariables false
namespace Go.Dk
open Go Go.Vc

theorem pgs_moved {F : Fs} (h : SrtF F) (a b n : Str) : pgs (moved a b F) n = if n = b then pgs F a else if n = a then [] else pgs F n := by
  unfold moved
  rw [pgs_put (srt_del h a)]; split
  · rfl
  · rw [pgs_del]
theorem srt_moved {F : Fs} (h : SrtF F) (a b : Str) : SrtF (moved a b F) := srt_put (srt_del h a) _ _
theorem get_moved {F : Fs} (h : SrtF F) (a b n : Str) : mGet (moved a b F) n = if n = b then some (pgs F a) else if n = a then none else mGet F n := by
  unfold moved
  rw [get_put (srt_del h a)]; split
  · rfl
  · rw [get_del]
theorem tot_moved {F : Fs} (h : SrtF F) {a b : Str} (hab : a ≠ b) : tot (moved a b F) + (pgs F b).length = tot F := by
  have h1 := tot_put (srt_del h a) b (pgs F a)
  have h2 := tot_del h a
  rw [pgs_del, if_neg (Ne.symm hab)] at h1
  unfold moved
  omega
theorem mem_turn {ws : List Wt} {a b : Str} {w : Wt} (h : w ∈ (drop ws b 0).map (turnW a b)) :
    ∃ v ∈ ws, v.n ≠ b ∧ w.i = v.i ∧ w.p = v.p ∧ w.n = (if v.n = a then b else v.n) := by
  obtain ⟨v, hv, rfl⟩ := List.mem_map.1 h
  obtain ⟨h1, h2⟩ := mem_drop hv
  refine ⟨v, h1, fun e => h2 ⟨e, by omega⟩, ?_, ?_, ?_⟩ <;> (unfold turnW; split <;> rfl)
theorem ok_rename {x : D} (h : Ok x) {a b : Str} (hab : a ≠ b) : Ok { x with now := moved a b x.now, safe := moved a b x.safe, waits := (drop x.waits b 0).map (turnW a b) } := by
  refine ⟨srt_moved h.now _ _, srt_moved h.safe _ _, h.room, ?_, fun n => ?_, fun w hw => ?_, fun n p hp => ?_, fun n p hp => ?_, h.fuse, h.keep⟩
  · have h1 := tot_moved h.now hab
    have h2 := h.tot
    show Dk.tot (moved a b x.now) ≤ x.room
    omega
  · show (pgs (moved a b x.safe) n).length ≤ (pgs (moved a b x.now) n).length
    rw [pgs_moved h.safe, pgs_moved h.now]; split
    · exact h.fewer a
    · split
      · exact Nat.le_refl _
      · exact h.fewer n
  · obtain ⟨v, hv, h1, h2, h3, h4⟩ := mem_turn hw
    have h5 := h.waits v hv
    show w.i < (pgs (moved a b x.now) w.n).length ∧ w.p.size = 512
    rw [pgs_moved h.now, h2, h3, h4]
    by_cases e : v.n = a
    · rw [if_pos e, if_pos rfl, ← e]; exact h5
    · rw [if_neg e, if_neg h1, if_neg e]; exact h5
  · have hp : p ∈ pgs (moved a b x.now) n := hp
    rw [pgs_moved h.now] at hp; split at hp
    · exact h.pnow _ _ hp
    · split at hp
      · cases hp
      · exact h.pnow _ _ hp
  · have hp : p ∈ pgs (moved a b x.safe) n := hp
    rw [pgs_moved h.safe] at hp; split at hp
    · exact h.psafe _ _ hp
    · split at hp
      · cases hp
      · exact h.psafe _ _ hp
end Go.Dk
end

section
set_option linter.unusedSimpArgs false
set_option linter.unusedVariables false
set_option maxRecDepth 20000
namespace Go.Cd
open Go Go.Vc

/-- a number's bytes: seven bits a byte, the lowest first. -/
def uintB (n : Nat) : List UInt8 := if h : n < 128 then [UInt8.ofNat n] else UInt8.ofNat (n % 128 + 128) :: uintB (n / 128)
termination_by n
decreasing_by omega
theorem uintB_small {n : Nat} (h : n < 128) : uintB n = [UInt8.ofNat n] := by rw [uintB, dif_pos h]
theorem uintB_big {n : Nat} (h : ¬ n < 128) : uintB n = UInt8.ofNat (n % 128 + 128) :: uintB (n / 128) := by rw [uintB, dif_neg h]
theorem uintB_len : ∀ (k n : Nat), n < 128 ^ (k + 1) → (uintB n).length ≤ k + 1
  | 0, n, h => by rw [uintB_small (by simpa using h)]; simp
  | k + 1, n, h => by
    by_cases hn : n < 128
    · rw [uintB_small hn]; simp
    · rw [uintB_big hn, List.length_cons]
      have := uintB_len k (n / 128) (by rw [Nat.pow_succ] at h; exact Nat.div_lt_of_lt_mul (by rw [Nat.mul_comm]; exact h))
      omega
theorem uintB_len10 {n : Nat} (h : n < 18446744073709551616) : (uintB n).length ≤ 10 := by
  have h1 : (128 : Nat) ^ (9 + 1) = 1180591620717411303424 := by decide
  exact uintB_len 9 n (by rw [h1]; omega)
theorem uintB_pos (n : Nat) : 0 < (uintB n).length := by
  by_cases h : n < 128
  · rw [uintB_small h]; simp
  · rw [uintB_big h]; simp
def textB (s : ByteArray) : List UInt8 := uintB s.size ++ bytesL s
def b8 (n : Int) : UInt8 := UInt8.ofNat (n % 256).toNat
theorem u8_b8 (n : Int) : IntKind.u8.wrap n = ((b8 n).toNat : Int) := by
  have h1 : IntKind.u8.wrap n = n % 256 := by simp [IntKind.wrap, IntKind.signed, IntKind.bits]
  unfold b8
  rw [h1, UInt8.toNat_ofNat']
  omega
theorem b8_nat {n : Nat} : b8 n = UInt8.ofNat n := by
  unfold b8
  apply UInt8.toNat_inj.1
  rw [UInt8.toNat_ofNat', UInt8.toNat_ofNat']
  omega
theorem or128 : ∀ k : Fin 256, ((BitVec.ofInt 8 (k.val : Int)) ||| BitVec.ofInt 8 128).toNat = k.val % 128 + 128 := by decide
theorem or_lead (m : Nat) : IntKind.u8.wrap ((BitVec.ofInt 8 (IntKind.u8.wrap (m : Int)) ||| BitVec.ofInt 8 128).toNat : Int) = ((UInt8.ofNat (m % 128 + 128)).toNat : Int) := by
  have h1 : IntKind.u8.wrap (m : Int) = ((m % 256 : Nat) : Int) := by simp [IntKind.wrap, IntKind.signed, IntKind.bits]
  rw [h1]
  have := or128 ⟨m % 256, by omega⟩
  rw [this, u8_b8, b8_nat]
  have e : m % 256 % 128 = m % 128 := by omega
  rw [e]
/-- a check's step by one bit; by a byte; by bytes. -/
def crc1 (n : Int) : Int := IntKind.u32.wrap (BitVec.ofInt 32 (n.fdiv (2 ^ 1)) ^^^ BitVec.ofInt 32 (IntKind.u32.wrap (BitVec.ofInt 32 2197175160 &&& BitVec.ofInt 32 (IntKind.u32.wrap (0 - IntKind.u32.wrap (BitVec.ofInt 32 n &&& BitVec.ofInt 32 1).toNat))).toNat)).toNat
def crcN : Nat → Int → Int
  | 0, n => n
  | k + 1, n => crcN k (crc1 n)
def crcB (s : Int) (b : UInt8) : Int := crcN 8 (IntKind.u32.wrap (BitVec.ofInt 32 s ^^^ BitVec.ofInt 32 (IntKind.u32.wrap (b.toNat : Nat))).toNat)
def crc (l : List UInt8) : Int := IntKind.u32.wrap (BitVec.ofInt 32 (Int.ofNat 4294967295) ^^^ BitVec.ofInt 32 (l.foldl crcB 4294967295)).toNat
theorem crcN_succ (k : Nat) (n : Int) : crcN (k + 1) n = crc1 (crcN k n) := by
  induction k generalizing n with
  | zero => rfl
  | succ k ih => show crcN (k + 1) (crc1 n) = _; rw [ih]; rfl
def sumB (c : Int) : List UInt8 := [b8 c, b8 (c.fdiv (2 ^ 8)), b8 (c.fdiv (2 ^ 16)), b8 (c.fdiv (2 ^ 24))]
def frameB (s : ByteArray) : List UInt8 := textB s ++ sumB (crc (textB s))
theorem textB_len (s : ByteArray) : (textB s).length = (uintB s.size).length + s.size := by
  unfold textB
  rw [List.length_append]
  rfl
theorem frameB_len (s : ByteArray) : (frameB s).length = (textB s).length + 4 := by simp [frameB, sumB]
end Go.Cd
end
