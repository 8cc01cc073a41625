/-
  The disk, plainly: files as lists by rising names, what each call does to them. Conditions: none.
-/
import Derived.Test.YtcihjdalokaokaaGreatDoorVcM
set_option linter.unusedSimpArgs false
set_option linter.unusedVariables false
namespace Go.Dk
open Go Go.Vc

abbrev Str := ByteArray
/- strings are ordered -/
theorem bl_irrefl : ∀ l : List UInt8, Op.bytesLess l l = false
  | [] => rfl
  | a :: l => by simp [Op.bytesLess, bl_irrefl l]
theorem bl_trans : ∀ x y z : List UInt8, Op.bytesLess x y = true → Op.bytesLess y z = true → Op.bytesLess x z = true
  | _, [], _, h, _ => by simp [Op.bytesLess] at h
  | _, _ :: _, [], _, h => by simp [Op.bytesLess] at h
  | [], _ :: _, _ :: _, _, _ => rfl
  | a :: x, b :: y, c :: z, h1, h2 => by
    simp only [Op.bytesLess, Bool.or_eq_true, Bool.and_eq_true, decide_eq_true_eq, beq_iff_eq] at *
    rcases h1 with h1 | ⟨rfl, h1⟩
    · rcases h2 with h2 | ⟨rfl, h2⟩
      · exact .inl (UInt8.lt_trans h1 h2)
      · exact .inl h1
    · rcases h2 with h2 | ⟨rfl, h2⟩
      · exact .inl h2
      · exact .inr ⟨rfl, bl_trans x y z h1 h2⟩
theorem bl_total : ∀ x y : List UInt8, Op.bytesLess x y = false → Op.bytesLess y x = false → x = y
  | [], [], _, _ => rfl
  | [], _ :: _, h, _ => by simp [Op.bytesLess] at h
  | _ :: _, [], _, h => by simp [Op.bytesLess] at h
  | a :: x, b :: y, h1, h2 => by
    simp only [Op.bytesLess, Bool.or_eq_false_iff, Bool.and_eq_false_iff, decide_eq_false_iff_not, beq_eq_false_iff_ne] at *
    have e : a = b := UInt8.le_antisymm (UInt8.not_lt.1 h2.1) (UInt8.not_lt.1 h1.1)
    subst e
    rw [bl_total x y (h1.2.resolve_left (by simp)) (h2.2.resolve_left (by simp))]
abbrev lt (a b : Str) : Bool := Op.bytesLess a.toList b.toList
theorem str_ext {a b : Str} (h : a.toList = b.toList) : a = b := by
  rw [ByteArray.toList_eq, ByteArray.toList_eq] at h
  cases a with | mk x => cases b with | mk y => congr 1; exact Array.toList_inj.1 h
theorem lt_irrefl (a : Str) : lt a a = false := bl_irrefl _
theorem lt_trans {a b c : Str} (h : lt a b = true) (k : lt b c = true) : lt a c = true := bl_trans _ _ _ h k
theorem lt_total {a b : Str} (h : lt a b = false) (k : lt b a = false) : a = b := str_ext (bl_total _ _ h k)
theorem lt_asymm {a b : Str} (h : lt a b = true) : lt b a = false := by
  cases k : lt b a with
  | false => rfl
  | true => have := lt_trans h k; rw [lt_irrefl] at this; cases this
theorem eq_beq {a b : Str} : (a.toList == b.toList) = true ↔ a = b := ⟨fun h => str_ext (by simpa using h), fun h => by subst h; simp⟩
theorem beq_dec' (a b : Str) : (a.toList == b.toList) = decide (a = b) := by
  by_cases h : a = b
  · subst h; simp
  · rw [decide_eq_false h]; cases k : a.toList == b.toList with | false => rfl | true => exact absurd (eq_beq.1 k) h
theorem ne_of_lt {a b : Str} (h : lt a b = true) : a ≠ b := fun e => by subst e; rw [lt_irrefl] at h; cases h
abbrev Srt (l : List Str) : Prop := l.Pairwise fun a b => lt a b = true
theorem srt_nodup {l : List Str} (h : Srt l) : l.Nodup := h.imp fun h => ne_of_lt h
theorem srt_ext : ∀ {l m : List Str}, Srt l → Srt m → (∀ k, k ∈ l ↔ k ∈ m) → l = m
  | [], [], _, _, _ => rfl
  | [], b :: m, _, _, h => by have := (h b).2 List.mem_cons_self; cases this
  | a :: l, [], _, _, h => by have := (h a).1 List.mem_cons_self; cases this
  | a :: l, b :: m, hl, hm, h => by
    have pl := List.pairwise_cons.1 hl
    have pm := List.pairwise_cons.1 hm
    have e : a = b := by
      rcases List.mem_cons.1 ((h a).1 List.mem_cons_self) with e | h1
      · exact e
      rcases List.mem_cons.1 ((h b).2 List.mem_cons_self) with e | h2
      · exact e.symm
      · have := lt_trans (pl.1 _ h2) (pm.1 _ h1); rw [lt_irrefl] at this; cases this
    subst e
    rw [srt_ext pl.2 pm.2 fun k => ?_]
    constructor
    · intro hk
      rcases List.mem_cons.1 ((h k).1 (List.mem_cons_of_mem _ hk)) with e | h1
      · subst e; have := pl.1 _ hk; rw [lt_irrefl] at this; cases this
      · exact h1
    · intro hk
      rcases List.mem_cons.1 ((h k).2 (List.mem_cons_of_mem _ hk)) with e | h1
      · subst e; have := pm.1 _ hk; rw [lt_irrefl] at this; cases this
      · exact h1

/- ------------------------------------------------------------------ files -/

abbrev Fs := List (Str × List Str)
abbrev names (F : Fs) : List Str := mKeys F
def SrtF (F : Fs) : Prop := Srt (names F)

/-- one file is this, in its place by rising names. -/
def put (n : Str) (l : List Str) : Fs → Fs
  | [] => [(n, l)]
  | p :: F => if p.1 = n then (n, l) :: F else if lt n p.1 then (n, l) :: p :: F else p :: put n l F
def del (n : Str) (F : Fs) : Fs := F.filter fun p => decide (p.1 ≠ n)
def tot (F : Fs) : Nat := (F.map fun p => p.2.length).sum
def pgs (F : Fs) (n : Str) : List Str := (mGet F n).getD []

theorem names_put (n : Str) (l : List Str) : ∀ (F : Fs) (q : Str), q ∈ names (put n l F) ↔ q = n ∨ q ∈ names F
  | [], q => by simp [put, mKeys]
  | p :: F, q => by
    unfold put
    by_cases h : p.1 = n
    · subst h; simp [mKeys]
    · rw [if_neg h]
      by_cases h2 : lt n p.1 = true
      · rw [if_pos h2]; simp [mKeys]
      · rw [if_neg h2]
        have ih := names_put n l F q
        simp only [mKeys, List.map_cons, List.mem_cons] at ih ⊢
        rw [ih]
        exact ⟨fun h => h.elim (fun h => .inr (.inl h)) (fun h => h.elim .inl (fun h => .inr (.inr h))), fun h => h.elim (fun h => .inr (.inl h)) (fun h => h.elim .inl (fun h => .inr (.inr h)))⟩
theorem srt_put {F : Fs} (h : SrtF F) (n : Str) (l : List Str) : SrtF (put n l F) := by
  induction F with
  | nil => simp [put, SrtF, mKeys]
  | cons p F ih =>
    have hp := List.pairwise_cons.1 h
    unfold put
    by_cases h1 : p.1 = n
    · subst h1; rw [if_pos rfl]; exact h
    · rw [if_neg h1]
      by_cases h2 : lt n p.1 = true
      · rw [if_pos h2]
        refine List.pairwise_cons.2 ⟨fun k hk => ?_, h⟩
        rcases List.mem_cons.1 hk with rfl | hk
        · exact h2
        · exact lt_trans h2 (hp.1 k hk)
      · rw [if_neg h2]
        refine List.pairwise_cons.2 ⟨fun k hk => ?_, ih hp.2⟩
        rcases (names_put n l F k).1 hk with rfl | hk
        · cases h3 : lt p.1 k with
          | true => rfl
          | false => exact absurd (lt_total h3 (by simpa using h2)) h1
        · exact hp.1 k hk
theorem get_none_of_lt {F : Fs} {n : Str} (h : ∀ q ∈ names F, lt n q = true) : mGet F n = none :=
  mGet_none.2 fun hm => by have := h n hm; rw [lt_irrefl] at this; cases this
theorem get_put {F : Fs} (h : SrtF F) (n : Str) (l : List Str) (q : Str) : mGet (put n l F) q = if q = n then some l else mGet F q := by
  induction F with
  | nil => by_cases e : q = n <;> simp [put, mGet, e]; exact fun h => e h.symm
  | cons p F ih =>
    have hp := List.pairwise_cons.1 h
    unfold put
    by_cases h1 : p.1 = n
    · subst h1; rw [if_pos rfl]; by_cases e : q = p.1
      · subst e; simp [mGet]
      · simp [mGet, e, Ne.symm e]
    · rw [if_neg h1]
      by_cases h2 : lt n p.1 = true
      · rw [if_pos h2]
        by_cases e : q = n
        · subst e; simp [mGet]
        · simp [mGet, e, Ne.symm e]
      · rw [if_neg h2]
        by_cases e : p.1 = q
        · subst e; simp [mGet, h1]
        · rw [mGet, if_neg e, ih hp.2, mGet, if_neg e]
theorem names_del (n : Str) (F : Fs) (q : Str) : q ∈ names (del n F) ↔ q ≠ n ∧ q ∈ names F := by
  simp only [mKeys, del, List.mem_map, List.mem_filter, decide_eq_true_eq]
  constructor
  · rintro ⟨p, ⟨h1, h2⟩, rfl⟩; exact ⟨h2, p, h1, rfl⟩
  · rintro ⟨h1, p, h2, rfl⟩; exact ⟨p, ⟨h2, h1⟩, rfl⟩
theorem srt_del {F : Fs} (h : SrtF F) (n : Str) : SrtF (del n F) := List.Pairwise.sublist (List.filter_sublist.map _) h
theorem get_del {F : Fs} (n q : Str) : mGet (del n F) q = if q = n then none else mGet F q := by
  induction F with
  | nil => simp [del, mGet]
  | cons p F ih =>
    simp only [del, List.filter_cons] at ih ⊢
    by_cases h : p.1 = n
    · simp only [h, ne_eq, not_true_eq_false, decide_false, Bool.false_eq_true, if_false, ih]
      by_cases e : q = n
      · simp [e]
      · simp [e, mGet, h, Ne.symm e]
    · simp only [h, ne_eq, not_false_eq_true, decide_true, if_true, mGet, ih]
      by_cases e : p.1 = q
      · subst e; simp [h]
      · simp [e]

/-- two lists by rising names that answer the same are the same. -/
theorem fs_ext : ∀ {F G : Fs}, SrtF F → SrtF G → (∀ q, mGet F q = mGet G q) → F = G
  | [], [], _, _, _ => rfl
  | [], b :: G, _, _, h => by have := h b.1; simp [mGet] at this
  | a :: F, [], _, _, h => by have := h a.1; simp [mGet] at this
  | a :: F, b :: G, hF, hG, h => by
    have pF := List.pairwise_cons.1 hF
    have pG := List.pairwise_cons.1 hG
    have e : names (a :: F) = names (b :: G) := srt_ext hF hG fun k => by
      rw [← Classical.not_not (a := k ∈ names (a :: F)), ← Classical.not_not (a := k ∈ names (b :: G)), ← mGet_none, ← mGet_none, h k]
    have e1 : a.1 = b.1 := by simp [mKeys] at e; exact e.1
    have e2 : a.2 = b.2 := by have := h a.1; simp [mGet, e1] at this; exact this
    have : a = b := Prod.ext e1 e2
    subst this
    rw [fs_ext pF.2 pG.2 fun q => ?_]
    by_cases hq : a.1 = q
    · subst hq
      rw [get_none_of_lt (F := F) (fun q hq => pF.1 q hq), get_none_of_lt (F := G) (fun q hq => pG.1 q hq)]
    · have := h q; simpa [mGet, hq] using this

theorem tot_put {F : Fs} (h : SrtF F) (n : Str) (l : List Str) : tot (put n l F) + (pgs F n).length = tot F + l.length := by
  induction F with
  | nil => simp [put, tot, pgs, mGet]
  | cons p F ih =>
    have hp := List.pairwise_cons.1 h
    unfold put
    by_cases h1 : p.1 = n
    · subst h1; rw [if_pos rfl]; simp [tot, pgs, mGet]; omega
    · rw [if_neg h1]
      by_cases h2 : lt n p.1 = true
      · rw [if_pos h2]
        have : mGet F n = none := get_none_of_lt fun q hq => lt_trans h2 (hp.1 q hq)
        simp [tot, pgs, mGet, h1, this]; omega
      · rw [if_neg h2]
        have := ih hp.2
        simp only [tot, pgs, mGet, if_neg h1, List.map_cons, List.sum_cons] at this ⊢
        omega
theorem tot_del {F : Fs} (h : SrtF F) (n : Str) : tot (del n F) + (pgs F n).length = tot F := by
  induction F with
  | nil => simp [del, tot, pgs, mGet]
  | cons p F ih =>
    have hp := List.pairwise_cons.1 h
    have := ih hp.2
    by_cases h1 : p.1 = n
    · have hg : mGet F n = none := get_none_of_lt fun q hq => h1 ▸ hp.1 q hq
      simp [tot, pgs, hg, del] at this
      simp [tot, pgs, mGet, h1, del]
      omega
    · have e : mGet (p :: F) n = mGet F n := by rw [mGet, if_neg h1]
      simp only [tot, pgs, e, del, List.filter_cons, ne_eq, h1, not_false_eq_true, decide_true, if_true, List.map_cons, List.sum_cons] at this ⊢
      omega

/- ------------------------------------------------------------------ the disk -/

def zp : Str := ⟨Array.replicate 512 0⟩
/-- a page's bytes, filled up by noughts. -/
def pad (b : Str) : Str := ⟨b.data ++ Array.replicate (512 - b.size) 0⟩
/-- a file with a page, and noughts ahead of it. -/
def setP (l : List Str) (i : Nat) (p : Str) : List Str := (l ++ List.replicate (i + 1 - l.length) zp).set i p

structure Wt where
  n : Str
  i : Nat
  p : Str

structure D where
  now : Fs
  safe : Fs
  waits : List Wt
  room : Nat
  down : Bool
  acts : Int
  fuse : Nat
  keep : Int

def free (d : D) : Int := d.room - tot d.now
/-- is the i-th write kept? -/
def kept (keep : Int) (i : Nat) : Bool := (keep.toNat >>> (i % 64)) % 2 == 1
def app1 (F : Fs) (w : Wt) : Fs := put w.n (setP (pgs F w.n) w.i w.p) F
def keepW (keep : Int) : Nat → List Wt → Fs → Fs
  | _, [], F => F
  | i, w :: ws, F => keepW keep (i + 1) ws (if kept keep i then app1 F w else F)
def addN (F : Fs) (n : Str) : Fs := match mGet F n with | some _ => F | none => put n [] F
def offS (keep : Int) (d : D) : Fs := (names d.now).foldl addN (keepW keep 0 d.waits d.safe)
def off (keep : Int) (d : D) : D := if d.down then d else { d with now := offS keep d, safe := offS keep d, waits := [], down := true, fuse := 0 }
def act (d : D) : D := { d with acts := IntKind.i64.wrap (d.acts + 1), fuse := d.fuse - 1 }
def goes (d : D) : Bool := d.fuse == 1
/-- an act: the power may go in it. -/
def ended (d : D) : Int × D := if goes d then (8, off (act d).keep (act d)) else (0, act d)
def write (d : D) (n : Str) (i : Int) (b : Str) : Int × D :=
  if d.down then (8, d) else if 512 < b.size then (3, d) else if i < 0 ∨ (pgs d.now n).length < i then (1, d) else
  if i = (pgs d.now n).length ∧ free d < 1 then (7, d) else
  let d1 : D := { act d with now := put n (setP (pgs d.now n) i.toNat (pad b)) d.now, waits := d.waits ++ [⟨n, i.toNat, pad b⟩] }
  if goes d then (8, off d1.keep d1) else (0, d1)
def has (d : D) (n : Str) : Bool := !d.down && (mGet d.now n).isSome
def may (d : D) (n : Str) : Int × D :=
  if d.down then (8, d) else match mGet d.now n with | none => (5, d) | some _ => ended d
def drop (ws : List Wt) (n : Str) (k : Int) : List Wt := ws.filter fun w => !(decide (w.n = n) && decide (k ≤ (w.i : Int)))
def sync (d : D) (n : Str) : Int × D := match may d n with
  | (e, d1) => if e = 0 then (0, { d1 with safe := put n (pgs d1.now n) d1.safe, waits := drop d1.waits n 0 }) else (e, d1)
def cut (d : D) (n : Str) (k : Int) : Int × D :=
  if !d.down && (mGet d.now n).isSome && decide (k < 0) then (1, d) else match may d n with
  | (e, d1) => if e = 0 then (0, { d1 with now := put n ((pgs d1.now n).take k.toNat) d1.now, safe := put n ((pgs d1.safe n).take k.toNat) d1.safe, waits := drop d1.waits n k }) else (e, d1)
def moved (a b : Str) (F : Fs) : Fs := put b (pgs F a) (del a F)
def turnW (a b : Str) (w : Wt) : Wt := if w.n = a then { w with n := b } else w
def rename (d : D) (a b : Str) : Int × D := match may d a with
  | (e, d1) => if e = 0 ∧ a ≠ b then (0, { d1 with now := moved a b d1.now, safe := moved a b d1.safe, waits := (drop d1.waits b 0).map (turnW a b) }) else (e, d1)
def remove (d : D) (n : Str) : Int × D := match may d n with
  | (e, d1) => if e = 0 then (0, { d1 with now := del n d1.now, safe := del n d1.safe, waits := drop d1.waits n 0 }) else (e, d1)
def namesD (d : D) : List Str := if d.down then [] else names d.now
def count (d : D) (n : Str) : Nat := if d.down then 0 else (pgs d.now n).length
def read (d : D) (n : Str) (i : Int) : Str × Int :=
  if d.down then (⟨#[]⟩, 8) else if i < 0 ∨ ((pgs d.now n).length : Int) ≤ i then (⟨#[]⟩, 5) else ((pgs d.now n).getD i.toNat zp, 0)
def arm (d : D) (n keep : Int) : D := { d with fuse := n.toNat, keep := keep }
def on (d : D) : D := { d with down := false }
def new (room : Int) : D := { now := [], safe := [], waits := [], room := (min (max room 0) 4096).toNat, down := false, acts := 0, fuse := 0, keep := 0 }

/-- what always holds of a disk. -/
structure Ok (d : D) : Prop where
  now : SrtF d.now
  safe : SrtF d.safe
  room : d.room ≤ 4096
  tot : tot d.now ≤ d.room
  fewer : ∀ n, (pgs d.safe n).length ≤ (pgs d.now n).length
  waits : ∀ w ∈ d.waits, w.i < (pgs d.now w.n).length ∧ w.p.size = 512
  pnow : ∀ n, ∀ p ∈ pgs d.now n, p.size = 512
  psafe : ∀ n, ∀ p ∈ pgs d.safe n, p.size = 512
  fuse : d.fuse ≤ 9223372036854775807
  keep : 0 ≤ d.keep ∧ d.keep < 18446744073709551616
end Go.Dk
