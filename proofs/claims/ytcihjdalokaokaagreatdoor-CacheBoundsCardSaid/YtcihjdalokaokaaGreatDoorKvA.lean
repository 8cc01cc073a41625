/-
  Pairs by rising keys, plainly: one put in, one taken out, what is scanned; writes. Conditions: none.
-/
import Derived.Test.YtcihjdalokaokaaGreatDoorDkA
set_option linter.unusedSimpArgs false
set_option linter.unusedVariables false
namespace Go.Kv
open Go Go.Vc Go.Dk
abbrev Ps (ν : Type) := List (Str × ν)
section
variable {ν : Type}
def SrtP (F : Ps ν) : Prop := Srt (mKeys F)
/-- one pair is this, in its place by rising keys. -/
def sput (n : Str) (l : ν) : Ps ν → Ps ν
  | [] => [(n, l)]
  | p :: F => if p.1 = n then (n, l) :: F else if lt n p.1 then (n, l) :: p :: F else p :: sput n l F
def sdel (n : Str) (F : Ps ν) : Ps ν := F.filter fun p => decide (p.1 ≠ n)
theorem keys_put (n : Str) (l : ν) : ∀ (F : Ps ν) (q : Str), q ∈ mKeys (sput n l F) ↔ q = n ∨ q ∈ mKeys F
  | [], q => by simp [sput, mKeys]
  | p :: F, q => by
    unfold sput
    by_cases h : p.1 = n
    · subst h; simp [mKeys]
    · rw [if_neg h]
      by_cases h2 : lt n p.1 = true
      · rw [if_pos h2]; simp [mKeys]
      · rw [if_neg h2]
        have ih := keys_put n l F q
        simp only [mKeys, List.map_cons, List.mem_cons] at ih ⊢
        rw [ih]
        exact ⟨fun h => h.elim (fun h => .inr (.inl h)) (fun h => h.elim .inl (fun h => .inr (.inr h))), fun h => h.elim (fun h => .inr (.inl h)) (fun h => h.elim .inl (fun h => .inr (.inr h)))⟩
theorem srtp_put {F : Ps ν} (h : SrtP F) (n : Str) (l : ν) : SrtP (sput n l F) := by
  induction F with
  | nil => simp [sput, SrtP, mKeys]
  | cons p F ih =>
    have hp := List.pairwise_cons.1 h
    unfold sput
    by_cases h1 : p.1 = n
    · subst h1; rw [if_pos rfl]; exact h
    · rw [if_neg h1]
      by_cases h2 : lt n p.1 = true
      · rw [if_pos h2]
        refine List.pairwise_cons.2 ⟨fun k hk => ?_, h⟩
        rcases List.mem_cons.1 hk with rfl | hk
        · exact h2
        · exact lt_trans h2 (hp.1 k hk)
      · rw [if_neg h2]
        refine List.pairwise_cons.2 ⟨fun k hk => ?_, ih hp.2⟩
        rcases (keys_put n l F k).1 hk with rfl | hk
        · cases h3 : lt p.1 k with
          | true => rfl
          | false => exact absurd (lt_total h3 (by simpa using h2)) h1
        · exact hp.1 k hk
theorem getp_none {F : Ps ν} {n : Str} (h : ∀ q ∈ mKeys F, lt n q = true) : mGet F n = none :=
  mGet_none.2 fun hm => by have := h n hm; rw [lt_irrefl] at this; cases this
theorem getp_put {F : Ps ν} (h : SrtP F) (n : Str) (l : ν) (q : Str) : mGet (sput n l F) q = if q = n then some l else mGet F q := by
  induction F with
  | nil => by_cases e : q = n <;> simp [sput, mGet, e]; exact fun h => e h.symm
  | cons p F ih =>
    have hp := List.pairwise_cons.1 h
    unfold sput
    by_cases h1 : p.1 = n
    · subst h1; rw [if_pos rfl]; by_cases e : q = p.1
      · subst e; simp [mGet]
      · simp [mGet, e, Ne.symm e]
    · rw [if_neg h1]
      by_cases h2 : lt n p.1 = true
      · rw [if_pos h2]
        by_cases e : q = n
        · subst e; simp [mGet]
        · simp [mGet, e, Ne.symm e]
      · rw [if_neg h2]
        by_cases e : p.1 = q
        · subst e; simp [mGet, h1]
        · rw [mGet, if_neg e, ih hp.2, mGet, if_neg e]
theorem keys_del (n : Str) (F : Ps ν) (q : Str) : q ∈ mKeys (sdel n F) ↔ q ≠ n ∧ q ∈ mKeys F := by
  simp only [mKeys, sdel, List.mem_map, List.mem_filter, decide_eq_true_eq]
  constructor
  · rintro ⟨p, ⟨h1, h2⟩, rfl⟩; exact ⟨h2, p, h1, rfl⟩
  · rintro ⟨h1, p, h2, rfl⟩; exact ⟨p, ⟨h2, h1⟩, rfl⟩
theorem srtp_del {F : Ps ν} (h : SrtP F) (n : Str) : SrtP (sdel n F) := List.Pairwise.sublist (List.filter_sublist.map _) h
theorem getp_del {F : Ps ν} (n q : Str) : mGet (sdel n F) q = if q = n then none else mGet F q := by
  induction F with
  | nil => simp [sdel, mGet]
  | cons p F ih =>
    simp only [sdel, List.filter_cons] at ih ⊢
    by_cases h : p.1 = n
    · simp only [h, ne_eq, not_true_eq_false, decide_false, Bool.false_eq_true, if_false, ih]
      by_cases e : q = n
      · simp [e]
      · simp [e, mGet, h, Ne.symm e]
    · simp only [h, ne_eq, not_false_eq_true, decide_true, if_true, mGet, ih]
      by_cases e : p.1 = q
      · subst e; simp [h]
      · simp [e]

/-- two lists by rising mKeys that answer the same are the same. -/
theorem ps_ext : ∀ {F G : Ps ν}, SrtP F → SrtP G → (∀ q, mGet F q = mGet G q) → F = G
  | [], [], _, _, _ => rfl
  | [], b :: G, _, _, h => by have := h b.1; simp [mGet] at this
  | a :: F, [], _, _, h => by have := h a.1; simp [mGet] at this
  | a :: F, b :: G, hF, hG, h => by
    have pF := List.pairwise_cons.1 hF
    have pG := List.pairwise_cons.1 hG
    have e : mKeys (a :: F) = mKeys (b :: G) := srt_ext hF hG fun k => by
      rw [← Classical.not_not (a := k ∈ mKeys (a :: F)), ← Classical.not_not (a := k ∈ mKeys (b :: G)), ← mGet_none, ← mGet_none, h k]
    have e1 : a.1 = b.1 := by simp [mKeys] at e; exact e.1
    have e2 : a.2 = b.2 := by have := h a.1; simp [mGet, e1] at this; exact this
    have : a = b := Prod.ext e1 e2
    subst this
    rw [ps_ext pF.2 pG.2 fun q => ?_]
    by_cases hq : a.1 = q
    · subst hq
      rw [getp_none (F := F) (fun q hq => pF.1 q hq), getp_none (F := G) (fun q hq => pG.1 q hq)]
    · have := h q; simpa [mGet, hq] using this

end
/-- a write. -/
structure Wr where
  key : Str
  val : Str
  gone : Bool
  deriving DecidableEq
instance : Inhabited Wr := ⟨⟨⟨#[]⟩, ⟨#[]⟩, false⟩⟩
def done1 (P : Ps Str) (w : Wr) : Ps Str := if w.gone then sdel w.key P else sput w.key w.val P
def doneAll (P : Ps Str) (l : List Wr) : Ps Str := l.foldl done1 P
theorem srt_done1 {P : Ps Str} (h : SrtP P) (w : Wr) : SrtP (done1 P w) := by
  unfold done1; split
  · exact srtp_del h _
  · exact srtp_put h _ _
theorem srt_doneAll : ∀ (l : List Wr) {P : Ps Str}, SrtP P → SrtP (doneAll P l)
  | [], P, h => h
  | w :: l, P, h => srt_doneAll l (srt_done1 h w)
theorem get_done1 {P : Ps Str} (h : SrtP P) (w : Wr) (q : Str) : mGet (done1 P w) q = if q = w.key then (if w.gone then none else some w.val) else mGet P q := by
  unfold done1; split
  · rw [getp_del]
  · rw [getp_put h]
theorem doneAll_snoc (P : Ps Str) (l : List Wr) (w : Wr) : doneAll P (l ++ [w]) = done1 (doneAll P l) w := by
  unfold doneAll; rw [List.foldl_append]; rfl
theorem doneAll_app (P : Ps Str) (l m : List Wr) : doneAll P (l ++ m) = doneAll (doneAll P l) m := by
  unfold doneAll; rw [List.foldl_append]
/-- the document's way: what comes of the pairs that are left. -/
def rr (k v : Str) : Bool → Ps Str → Ps Str
  | d, [] => if d then [] else [(k, v)]
  | d, p :: l => (if !d && !lt p.1 k then [(k, v)] else []) ++ (if p.1 = k then [] else [p]) ++ rr k v (d || !lt p.1 k) l
theorem rr_true (k v : Str) : ∀ l, rr k v true l = sdel k l
  | [] => rfl
  | p :: l => by
    unfold rr
    rw [Bool.true_or, rr_true k v l]
    unfold sdel
    rw [List.filter_cons]
    by_cases h : p.1 = k
    · simp [h]
    · simp [h]
theorem sdel_none {ν : Type} {k : Str} {l : Ps ν} (h : ∀ q ∈ mKeys l, q ≠ k) : sdel k l = l := by
  unfold sdel
  refine List.filter_eq_self.2 fun p hp => decide_eq_true (h p.1 (List.mem_map_of_mem hp))
theorem rr_false (k v : Str) : ∀ l, SrtP l → rr k v false l = sput k v l
  | [], _ => rfl
  | p :: l, h => by
    have hp : (∀ q ∈ mKeys l, lt p.1 q = true) ∧ SrtP l := List.pairwise_cons.1 h
    unfold rr sput
    by_cases h1 : p.1 = k
    · have hl : lt p.1 k = false := by rw [h1]; exact lt_irrefl k
      rw [hl, if_pos h1, if_pos h1]
      simp only [Bool.not_false, Bool.and_self, if_true, Bool.or_true]
      rw [rr_true, sdel_none fun q hq => by have := hp.1 q hq; rw [h1] at this; exact (ne_of_lt this).symm]
      rfl
    · rw [if_neg h1, if_neg h1]
      by_cases h2 : lt k p.1 = true
      · have hl : lt p.1 k = false := lt_asymm h2
        rw [hl, if_pos h2]
        simp only [Bool.not_false, Bool.and_self, if_true, Bool.or_true]
        rw [rr_true, sdel_none fun q hq => (ne_of_lt (lt_trans h2 (hp.1 q hq))).symm]
        rfl
      · have hl : lt p.1 k = true := by
          cases h3 : lt p.1 k with
          | true => rfl
          | false => exact absurd (lt_total h3 (by simpa using h2)) h1
        rw [hl, if_neg h2]
        simp only [Bool.not_true, Bool.and_false, Bool.or_false]
        rw [rr_false k v l hp.2]
        simp
theorem rr_done {P : Ps Str} (h : SrtP P) (w : Wr) : rr w.key w.val w.gone P = done1 P w := by
  unfold done1
  cases hg : w.gone with
  | true => rw [rr_true]; rfl
  | false => rw [rr_false _ _ _ h]; rfl
/-- what is scanned. -/
def scan (P : Ps Str) (fr : Str) (n : Int) : Ps Str := (P.filter fun p => !lt p.1 fr).take n.toNat
/-- is a write too long, or are there too many? -/
def long (l : List Wr) : Bool := l.any (fun w => decide (48 < w.key.size) || decide (160 < w.val.size)) || decide (1024 < l.length)
end Go.Kv
