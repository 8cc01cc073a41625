/-
  Texts of this seat, laid one behind the other: KvA KvC KvD KvE IdA IdB IdC IdD. Conditions: none.
-/
import Derived.Test.YtmdcfmhkfomoaaaGreatDoorZP
import Derived.Test.YtmdcfmhkfomoaaaGreatDoorVcE
import Derived.Test.YtmdcfmhkfomoaaaGreatDoorZV
import Derived.OpenShut
import Derived.DeepKeys
section
set_option linter.unusedSimpArgs false
set_option linter.unusedVariables false
namespace Go.Kv
open Go Go.Vc Go.Dk
abbrev Ps (ν : Type) := List (Str × ν)
section
variable {ν : Type}
def SrtP (F : Ps ν) : Prop := Srt (mKeys F)
/-- one pair is this, in its place by rising keys. -/
def sput (n : Str) (l : ν) : Ps ν → Ps ν
  | [] => [(n, l)]
  | p :: F => if p.1 = n then (n, l) :: F else if lt n p.1 then (n, l) :: p :: F else p :: sput n l F
def sdel (n : Str) (F : Ps ν) : Ps ν := F.filter fun p => decide (p.1 ≠ n)
theorem keys_put (n : Str) (l : ν) : ∀ (F : Ps ν) (q : Str), q ∈ mKeys (sput n l F) ↔ q = n ∨ q ∈ mKeys F
  | [], q => by simp [sput, mKeys]
  | p :: F, q => by
    unfold sput
    by_cases h : p.1 = n
    · subst h; simp [mKeys]
    · rw [if_neg h]
      by_cases h2 : lt n p.1 = true
      · rw [if_pos h2]; simp [mKeys]
      · rw [if_neg h2]
        have ih := keys_put n l F q
        simp only [mKeys, List.map_cons, List.mem_cons] at ih ⊢
        rw [ih]
        exact ⟨fun h => h.elim (fun h => .inr (.inl h)) (fun h => h.elim .inl (fun h => .inr (.inr h))), fun h => h.elim (fun h => .inr (.inl h)) (fun h => h.elim .inl (fun h => .inr (.inr h)))⟩
theorem srtp_put {F : Ps ν} (h : SrtP F) (n : Str) (l : ν) : SrtP (sput n l F) := by
  induction F with
  | nil => simp [sput, SrtP, mKeys]
  | cons p F ih =>
    have hp := List.pairwise_cons.1 h
    unfold sput
    by_cases h1 : p.1 = n
    · subst h1; rw [if_pos rfl]; exact h
    · rw [if_neg h1]
      by_cases h2 : lt n p.1 = true
      · rw [if_pos h2]
        refine List.pairwise_cons.2 ⟨fun k hk => ?_, h⟩
        rcases List.mem_cons.1 hk with rfl | hk
        · exact h2
        · exact lt_trans h2 (hp.1 k hk)
      · rw [if_neg h2]
        refine List.pairwise_cons.2 ⟨fun k hk => ?_, ih hp.2⟩
        rcases (keys_put n l F k).1 hk with rfl | hk
        · cases h3 : lt p.1 k with
          | true => rfl
          | false => exact absurd (lt_total h3 (by simpa using h2)) h1
        · exact hp.1 k hk
theorem getp_none {F : Ps ν} {n : Str} (h : ∀ q ∈ mKeys F, lt n q = true) : mGet F n = none :=
  mGet_none.2 fun hm => by have := h n hm; rw [lt_irrefl] at this; cases this
theorem getp_put {F : Ps ν} (h : SrtP F) (n : Str) (l : ν) (q : Str) : mGet (sput n l F) q = if q = n then some l else mGet F q := by
  induction F with
  | nil => by_cases e : q = n <;> simp [sput, mGet, e]; exact fun h => e h.symm
  | cons p F ih =>
    have hp := List.pairwise_cons.1 h
    unfold sput
    by_cases h1 : p.1 = n
    · subst h1; rw [if_pos rfl]; by_cases e : q = p.1
      · subst e; simp [mGet]
      · simp [mGet, e, Ne.symm e]
    · rw [if_neg h1]
      by_cases h2 : lt n p.1 = true
      · rw [if_pos h2]
        by_cases e : q = n
        · subst e; simp [mGet]
        · simp [mGet, e, Ne.symm e]
      · rw [if_neg h2]
        by_cases e : p.1 = q
        · subst e; simp [mGet, h1]
        · rw [mGet, if_neg e, ih hp.2, mGet, if_neg e]
theorem keys_del (n : Str) (F : Ps ν) (q : Str) : q ∈ mKeys (sdel n F) ↔ q ≠ n ∧ q ∈ mKeys F := by
  simp only [mKeys, sdel, List.mem_map, List.mem_filter, decide_eq_true_eq]
  constructor
  · rintro ⟨p, ⟨h1, h2⟩, rfl⟩; exact ⟨h2, p, h1, rfl⟩
  · rintro ⟨h1, p, h2, rfl⟩; exact ⟨p, ⟨h2, h1⟩, rfl⟩
theorem srtp_del {F : Ps ν} (h : SrtP F) (n : Str) : SrtP (sdel n F) := List.Pairwise.sublist (List.filter_sublist.map _) h
theorem getp_del {F : Ps ν} (n q : Str) : mGet (sdel n F) q = if q = n then none else mGet F q := by
  induction F with
  | nil => simp [sdel, mGet]
  | cons p F ih =>
    simp only [sdel, List.filter_cons] at ih ⊢
    by_cases h : p.1 = n
    · simp only [h, ne_eq, not_true_eq_false, decide_false, Bool.false_eq_true, if_false, ih]
      by_cases e : q = n
      · simp [e]
      · simp [e, mGet, h, Ne.symm e]
    · simp only [h, ne_eq, not_false_eq_true, decide_true, if_true, mGet, ih]
      by_cases e : p.1 = q
      · subst e; simp [h]
      · simp [e]

/-- two lists by rising mKeys that answer the same are the same. -/
theorem ps_ext : ∀ {F G : Ps ν}, SrtP F → SrtP G → (∀ q, mGet F q = mGet G q) → F = G
  | [], [], _, _, _ => rfl
  | [], b :: G, _, _, h => by have := h b.1; simp [mGet] at this
  | a :: F, [], _, _, h => by have := h a.1; simp [mGet] at this
  | a :: F, b :: G, hF, hG, h => by
    have pF := List.pairwise_cons.1 hF
    have pG := List.pairwise_cons.1 hG
    have e : mKeys (a :: F) = mKeys (b :: G) := srt_ext hF hG fun k => by
      rw [← Classical.not_not (a := k ∈ mKeys (a :: F)), ← Classical.not_not (a := k ∈ mKeys (b :: G)), ← mGet_none, ← mGet_none, h k]
    have e1 : a.1 = b.1 := by simp [mKeys] at e; exact e.1
    have e2 : a.2 = b.2 := by have := h a.1; simp [mGet, e1] at this; exact this
    have : a = b := Prod.ext e1 e2
    subst this
    rw [ps_ext pF.2 pG.2 fun q => ?_]
    by_cases hq : a.1 = q
    · subst hq
      rw [getp_none (F := F) (fun q hq => pF.1 q hq), getp_none (F := G) (fun q hq => pG.1 q hq)]
    · have := h q; simpa [mGet, hq] using this

end
/-- a write. -/
structure Wr where
  key : Str
  val : Str
  gone : Bool
  deriving DecidableEq
instance : Inhabited Wr := ⟨⟨⟨#[]⟩, ⟨#[]⟩, false⟩⟩
def done1 (P : Ps Str) (w : Wr) : Ps Str := if w.gone then sdel w.key P else sput w.key w.val P
def doneAll (P : Ps Str) (l : List Wr) : Ps Str := l.foldl done1 P
theorem srt_done1 {P : Ps Str} (h : SrtP P) (w : Wr) : SrtP (done1 P w) := by
  unfold done1; split
  · exact srtp_del h _
  · exact srtp_put h _ _
theorem srt_doneAll : ∀ (l : List Wr) {P : Ps Str}, SrtP P → SrtP (doneAll P l)
  | [], P, h => h
  | w :: l, P, h => srt_doneAll l (srt_done1 h w)
theorem get_done1 {P : Ps Str} (h : SrtP P) (w : Wr) (q : Str) : mGet (done1 P w) q = if q = w.key then (if w.gone then none else some w.val) else mGet P q := by
  unfold done1; split
  · rw [getp_del]
  · rw [getp_put h]
theorem doneAll_snoc (P : Ps Str) (l : List Wr) (w : Wr) : doneAll P (l ++ [w]) = done1 (doneAll P l) w := by
  unfold doneAll; rw [List.foldl_append]; rfl
theorem doneAll_app (P : Ps Str) (l m : List Wr) : doneAll P (l ++ m) = doneAll (doneAll P l) m := by
  unfold doneAll; rw [List.foldl_append]
/-- the document's way: what comes of the pairs that are left. -/
def rr (k v : Str) : Bool → Ps Str → Ps Str
  | d, [] => if d then [] else [(k, v)]
  | d, p :: l => (if !d && !lt p.1 k then [(k, v)] else []) ++ (if p.1 = k then [] else [p]) ++ rr k v (d || !lt p.1 k) l
theorem rr_true (k v : Str) : ∀ l, rr k v true l = sdel k l
  | [] => rfl
  | p :: l => by
    unfold rr
    rw [Bool.true_or, rr_true k v l]
    unfold sdel
    rw [List.filter_cons]
    by_cases h : p.1 = k
    · simp [h]
    · simp [h]
theorem sdel_none {ν : Type} {k : Str} {l : Ps ν} (h : ∀ q ∈ mKeys l, q ≠ k) : sdel k l = l := by
  unfold sdel
  refine List.filter_eq_self.2 fun p hp => decide_eq_true (h p.1 (List.mem_map_of_mem hp))
theorem rr_false (k v : Str) : ∀ l, SrtP l → rr k v false l = sput k v l
  | [], _ => rfl
  | p :: l, h => by
    have hp : (∀ q ∈ mKeys l, lt p.1 q = true) ∧ SrtP l := List.pairwise_cons.1 h
    unfold rr sput
    by_cases h1 : p.1 = k
    · have hl : lt p.1 k = false := by rw [h1]; exact lt_irrefl k
      rw [hl, if_pos h1, if_pos h1]
      simp only [Bool.not_false, Bool.and_self, if_true, Bool.or_true]
      rw [rr_true, sdel_none fun q hq => by have := hp.1 q hq; rw [h1] at this; exact (ne_of_lt this).symm]
      rfl
    · rw [if_neg h1, if_neg h1]
      by_cases h2 : lt k p.1 = true
      · have hl : lt p.1 k = false := lt_asymm h2
        rw [hl, if_pos h2]
        simp only [Bool.not_false, Bool.and_self, if_true, Bool.or_true]
        rw [rr_true, sdel_none fun q hq => (ne_of_lt (lt_trans h2 (hp.1 q hq))).symm]
        rfl
      · have hl : lt p.1 k = true := by
          cases h3 : lt p.1 k with
          | true => rfl
          | false => exact absurd (lt_total h3 (by simpa using h2)) h1
        rw [hl, if_neg h2]
        simp only [Bool.not_true, Bool.and_false, Bool.or_false]
        rw [rr_false k v l hp.2]
        simp
theorem rr_done {P : Ps Str} (h : SrtP P) (w : Wr) : rr w.key w.val w.gone P = done1 P w := by
  unfold done1
  cases hg : w.gone with
  | true => rw [rr_true]; rfl
  | false => rw [rr_false _ _ _ h]; rfl
/-- what is scanned. -/
def scan (P : Ps Str) (fr : Str) (n : Int) : Ps Str := (P.filter fun p => !lt p.1 fr).take n.toNat
/-- is a write too long, or are there too many? -/
def long (l : List Wr) : Bool := l.any (fun w => decide (48 < w.key.size) || decide (160 < w.val.size)) || decide (1024 < l.length)
end Go.Kv
end

section
set_option linter.unusedSimpArgs false
set_option linter.unusedVariables false
namespace Go.Kv
open Go Go.Vc Go.Dk
abbrev Ptr (a : Addr) : Option Value := some (.pointer (some a))
section
variable {f g f' g' : Addr → Option Value}
/-- from one place over others to one: each leads to the next, and back. -/
def Ch (f g : Addr → Option Value) : Addr → List Addr → Addr → Prop
  | a, [], z => f a = Ptr z ∧ g z = Ptr a
  | a, e :: X, z => (f a = Ptr e ∧ g e = Ptr a) ∧ Ch f g e X z
def lastA : Addr → List Addr → Addr
  | a, [] => a
  | _, e :: X => lastA e X
theorem lastA_snoc : ∀ (X : List Addr) (a e : Addr), lastA a (X ++ [e]) = e
  | [], _, _ => rfl
  | _ :: X, _, e => lastA_snoc X _ e
theorem lastA_mem : ∀ (X : List Addr) (a : Addr), lastA a X ∈ a :: X
  | [], a => List.mem_singleton.2 rfl
  | e :: X, a => List.mem_cons_of_mem _ (lastA_mem X e)
theorem Ch.app : ∀ (X : List Addr) {a e z : Addr} {Y : List Addr}, Ch f g a (X ++ e :: Y) z ↔ Ch f g a X e ∧ Ch f g e Y z
  | [], a, e, z, Y => Iff.rfl
  | x :: X, a, e, z, Y => by
    simp only [List.cons_append, Ch, Ch.app X]
    exact ⟨fun h => ⟨⟨h.1, h.2.1⟩, h.2.2⟩, fun h => ⟨h.1.1, h.1.2, h.2⟩⟩
theorem Ch.congr : ∀ (X : List Addr) {a z : Addr}, Ch f g a X z → (∀ x ∈ a :: X, f' x = f x) → (∀ x ∈ X, g' x = g x) → g' z = g z → Ch f' g' a X z
  | [], a, z, h, hf, hg, hz => ⟨(hf a List.mem_cons_self).trans h.1, hz.trans h.2⟩
  | x :: X, a, z, h, hf, hg, hz => ⟨⟨(hf a List.mem_cons_self).trans h.1.1, (hg x List.mem_cons_self).trans h.1.2⟩,
      Ch.congr X h.2 (fun y hy => hf y (List.mem_cons_of_mem _ hy)) (fun y hy => hg y (List.mem_cons_of_mem _ hy)) hz⟩
theorem Ch.back : ∀ (X : List Addr) {a z : Addr}, Ch f g a X z → g z = Ptr (lastA a X)
  | [], _, _, h => h.2
  | _ :: X, _, _, h => Ch.back X h.2
theorem Ch.fore {X : List Addr} {a z : Addr} (h : Ch f g a X z) : f a = Ptr (X.headD z) := by
  cases X with
  | nil => exact h.1
  | cons x X => exact h.1.1
/-- the last step leads elsewhere. -/
theorem Ch.relink : ∀ (X : List Addr) {a z y : Addr}, Ch f g a X z → (a :: X).Nodup → f' (lastA a X) = Ptr y → g' y = Ptr (lastA a X) → (∀ x ∈ a :: X, x ≠ lastA a X → f' x = f x) → (∀ x ∈ X, g' x = g x) → Ch f' g' a X y
  | [], a, z, y, h, hn, h1, h2, hf, hg => ⟨h1, h2⟩
  | e :: X, a, z, y, h, hn, h1, h2, hf, hg => by
    have hn2 := List.nodup_cons.1 hn
    refine ⟨⟨(hf a List.mem_cons_self fun e2 => hn2.1 (by rw [e2]; exact lastA_mem X e)).trans h.1.1, (hg e List.mem_cons_self).trans h.1.2⟩, Ch.relink X h.2 hn2.2 h1 h2 (fun x hx hne => hf x (List.mem_cons_of_mem _ hx) hne) fun x hx => hg x (List.mem_cons_of_mem _ hx)⟩
/-- one is taken out. -/
theorem Ch.out {X Y : List Addr} {a e z : Addr} (h : Ch f g a (X ++ e :: Y) z) (hn : (a :: (X ++ e :: Y)).Nodup) (hz : z = a)
    (h1 : f' (lastA a X) = Ptr (Y.headD z)) (h2 : g' (Y.headD z) = Ptr (lastA a X)) (hf : ∀ x, x ≠ lastA a X → f' x = f x) (hg : ∀ x, x ≠ Y.headD z → g' x = g x) : Ch f' g' a (X ++ Y) z := by
  subst hz
  obtain ⟨c1, c2⟩ := (Ch.app X).1 h
  have hnX : (z :: X).Nodup := by
    have : (z :: X).Sublist (z :: (X ++ e :: Y)) := List.Sublist.cons_cons _ (List.sublist_append_left _ _)
    exact this.nodup hn
  have hz : z ∉ X ++ e :: Y := (List.nodup_cons.1 hn).1
  have hd := (List.nodup_append.1 (List.nodup_cons.1 hn).2).2.2
  cases Y with
  | nil =>
    rw [List.append_nil]
    refine Ch.relink X c1 hnX h1 h2 (fun x _ hne => hf x hne) fun x hx => hg x fun e2 => ?_
    exact hz (by rw [← show x = z from e2]; exact List.mem_append_left _ hx)
  | cons y Y =>
    refine (Ch.app X).2 ⟨Ch.relink X c1 hnX h1 h2 (fun x _ hne => hf x hne) fun x hx => hg x fun e2 => ?_, ?_⟩
    · exact hd x hx x (by rw [show x = y from e2]; exact List.mem_cons_of_mem _ List.mem_cons_self) rfl
    · have hyY := (List.nodup_cons.1 (List.nodup_append.1 (List.nodup_cons.1 hn).2).2.1).2
      refine Ch.congr Y c2.2 (fun x hx => hf x fun e2 => ?_) (fun x hx => hg x fun e2 => ?_) (hg z fun e2 => hz ?_)
      · rcases List.mem_cons.1 (lastA_mem X z) with h3 | h3
        · exact hz (by rw [← h3, ← e2]; exact List.mem_append_right _ (List.mem_cons_of_mem _ hx))
        · rw [← e2] at h3; exact hd x h3 x (List.mem_cons_of_mem _ hx) rfl
      · exact (List.nodup_cons.1 hyY).1 (by rw [← show x = y from e2]; exact hx)
      · rw [show z = y from e2]; exact List.mem_append_right _ (List.mem_cons_of_mem _ List.mem_cons_self)
/-- one is put in at the end. -/
theorem Ch.inn {X : List Addr} {a e : Addr} (h : Ch f g a X a) (hn : (a :: X).Nodup) (he : e ≠ a) (heX : e ∉ X)
    (h1 : f' (lastA a X) = Ptr e) (h2 : g' e = Ptr (lastA a X)) (h3 : f' e = Ptr a) (h4 : g' a = Ptr e) (hf : ∀ x, x ≠ lastA a X → x ≠ e → f' x = f x) (hg : ∀ x, x ≠ e → x ≠ a → g' x = g x) : Ch f' g' a (X ++ [e]) a := by
  have ha := (List.nodup_cons.1 hn).1
  refine (Ch.app X).2 ⟨Ch.relink X h hn h1 h2 (fun x hx hne => hf x hne fun e2 => ?_) (fun x hx => hg x (fun e2 => heX (e2 ▸ hx)) fun e2 => ha (e2 ▸ hx)), h3, h4⟩
  rcases List.mem_cons.1 hx with h5 | h5
  · exact he (e2.symm.trans h5)
  · exact heX (e2 ▸ h5)
end
/- ------------------------------------------------------------------ what a cache remembers -/
structure En where
  key : Str
  val : Str
  is : Bool
def ecut (k : Str) (l : List En) : List En := l.filter fun e => decide (e.key ≠ k)
def efind (k : Str) (l : List En) : Option En := l.find? fun e => decide (e.key = k)
def ekeep (most : Nat) (l : List En) (k v : Str) (is : Bool) : List En :=
  if (efind k l).isSome then ecut k l ++ [⟨k, v, is⟩] else if most = 0 then l else (if l.length = most then l.tail else l) ++ [⟨k, v, is⟩]
abbrev ekeys (l : List En) : List Str := l.map (·.key)
end Go.Kv
end

section
set_option linter.unusedVariables false
namespace Go.Kv
open Go Go.Vc Go.Dk

/-- what is remembered is so. -/
def GoodE (P : Ps Str) (e : En) : Prop := e.is = (mGet P e.key).isSome ∧ e.val = (mGet P e.key).getD ⟨#[]⟩
/-- a write is remembered. -/
def eput (most : Nat) (E : List En) (w : Wr) : List En := ekeep most E w.key (if w.gone then ⟨#[]⟩ else w.val) (!w.gone)
theorem efind_mem {k : Str} {E : List En} {e : En} (h : efind k E = some e) : e ∈ E ∧ e.key = k :=
  ⟨List.mem_of_find?_eq_some h, by unfold efind at h; have := List.find?_some h; exact of_decide_eq_true this⟩
theorem efind_no {k : Str} {E : List En} (h : (efind k E).isSome = false) : ∀ e ∈ E, e.key ≠ k := fun e he hk => by
  have h0 : efind k E = none := by cases hf : efind k E with
    | none => rfl
    | some x => rw [hf] at h; cases h
  exact List.find?_eq_none.1 h0 e he (decide_eq_true hk)
theorem ekeep_mem {most : Nat} {E : List En} {k v : Str} {is : Bool} {e : En} (h : e ∈ ekeep most E k v is) : e = ⟨k, v, is⟩ ∨ (e ∈ E ∧ (e.key ≠ k ∨ most = 0)) := by
  unfold ekeep at h
  split at h
  · rcases List.mem_append.1 h with h | h
    · obtain ⟨h1, h2⟩ := List.mem_filter.1 h
      exact .inr ⟨h1, .inl (of_decide_eq_true h2)⟩
    · exact .inl (List.mem_singleton.1 h)
  · rename_i hf
    have hno := efind_no (by simpa using hf)
    split at h
    · rename_i h0; exact .inr ⟨h, .inr h0⟩
    · rcases List.mem_append.1 h with h | h
      · have hE : e ∈ E := by
          split at h
          · exact List.mem_of_mem_tail h
          · exact h
        exact .inr ⟨hE, .inl (hno e hE)⟩
      · exact .inl (List.mem_singleton.1 h)
theorem ekeep_len {most : Nat} {E : List En} {k v : Str} {is : Bool} (h : E.length ≤ most) : (ekeep most E k v is).length ≤ most := by
  unfold ekeep
  split
  · rename_i hf
    obtain ⟨e, he⟩ := Option.isSome_iff_exists.1 hf
    obtain ⟨hm, hk⟩ := efind_mem he
    have : (ecut k E).length < E.length := by
      unfold ecut
      have h1 := List.length_filter_le (fun e => decide (e.key ≠ k)) E
      rcases Nat.lt_or_ge (E.filter fun e => decide (e.key ≠ k)).length E.length with h2 | h2
      · exact h2
      · have h3 := List.length_filter_eq_length_iff.1 (Nat.le_antisymm h1 h2) e hm
        simp [hk] at h3
    rw [List.length_append, List.length_singleton]; omega
  · split
    · exact h
    · split
      · rw [List.length_append, List.length_tail, List.length_singleton]; omega
      · rw [List.length_append, List.length_singleton]; omega
theorem good_get {P : Ps Str} {most : Nat} {E : List En} (hE : ∀ e ∈ E, GoodE P e) (k : Str) : ∀ e ∈ ekeep most E k ((mGet P k).getD ⟨#[]⟩) (mGet P k).isSome, GoodE P e := fun e he => by
  rcases ekeep_mem he with rfl | ⟨h, _⟩
  · exact ⟨rfl, rfl⟩
  · exact hE e h
theorem good_put {P : Ps Str} (hs : SrtP P) {most : Nat} {E : List En} (hl : E.length ≤ most) (hE : ∀ e ∈ E, GoodE P e) (w : Wr) : ∀ e ∈ eput most E w, GoodE (done1 P w) e := fun e he => by
  unfold GoodE
  rw [get_done1 hs]
  rcases ekeep_mem he with rfl | ⟨h, h2⟩
  · dsimp only
    rw [if_pos rfl]
    cases w.gone <;> exact ⟨rfl, rfl⟩
  · have hne : e.key ≠ w.key := by
      rcases h2 with h2 | h2
      · exact h2
      · subst h2
        have : E = [] := List.eq_nil_of_length_eq_zero (by omega)
        rw [this] at h; cases h
    rw [if_neg hne]
    exact hE e h
theorem eput_len {most : Nat} {E : List En} (h : E.length ≤ most) (w : Wr) : (eput most E w).length ≤ most := ekeep_len h
theorem eputs_len {most : Nat} : ∀ (l : List Wr) {E : List En}, E.length ≤ most → (l.foldl (eput most) E).length ≤ most
  | [], _, h => h
  | w :: l, _, h => eputs_len l (eput_len h w)
theorem good_puts {most : Nat} : ∀ (l : List Wr) {P : Ps Str} {E : List En}, SrtP P → E.length ≤ most → (∀ e ∈ E, GoodE P e) → ∀ e ∈ l.foldl (eput most) E, GoodE (doneAll P l) e
  | [], _, _, _, _, h => h
  | w :: l, _, _, hs, hl, h => good_puts l (srt_done1 hs w) (eput_len hl w) (good_put hs hl h w)
end Go.Kv
end

section
set_option linter.unusedVariables false
set_option linter.unusedSimpArgs false
namespace Go.Kv
open Go Go.Vc Go.Dk

/-- the machine's own blocks stay too. -/
theorem hc_stay {P : Program} {f : FuncId} {args : Array Value} {h : Heap} {Q : Value → Heap → Prop} (hc : HC P f args h fun v h' => Turn h h' ∧ Q v h') : HC P f args h fun v h' => Keep h.size h h' ∧ Q v h' := by
  refine ⟨fun w hw => (hc.run w hw).mono ?_⟩
  rintro e w' ⟨v, rfl, hs, t, q⟩
  refine ⟨v, rfl, hs, ⟨t.size, fun b hb => ?_⟩, q⟩
  subst hw
  have hb' : w.heap[b]? = some (w.heap[b]'hb) := Array.getElem?_eq_getElem hb
  cases hm : isMark (w.heap[b]'hb) with
  | true => rw [hb']; exact hs.marks b _ hb' hm
  | false => rw [hb']; exact t.stay b _ hb' hm
/-- the last keys, one more asked. -/
def lnext (most : Nat) (l : List Str) (k : Str) : List Str :=
  let r := l.filter (fun o => decide (o ≠ k)) ++ [k]
  r.drop (r.length - most)
theorem ekeys_cut (k : Str) : ∀ E : List En, ekeys (ecut k E) = (ekeys E).filter fun o => decide (o ≠ k)
  | [] => rfl
  | e :: E => by
    have ih := ekeys_cut k E
    unfold ecut ekeys at ih ⊢
    rw [List.map_cons, List.filter_cons, List.filter_cons]
    split
    · rename_i h1
      rw [List.map_cons, ih]
    · rename_i h1
      exact ih
theorem efind_iff (k : Str) (E : List En) : (efind k E).isSome = true ↔ k ∈ ekeys E := by
  unfold efind
  rw [List.find?_isSome]
  constructor
  · rintro ⟨e, he, hk⟩
    exact List.mem_map.2 ⟨e, he, of_decide_eq_true hk⟩
  · intro h
    obtain ⟨e, he, hk⟩ := List.mem_map.1 h
    exact ⟨e, he, decide_eq_true hk⟩
theorem ekeys_keep {most : Nat} {E : List En} {k v : Str} {is : Bool} (hl : E.length ≤ most) (hm : 1 ≤ most) : ekeys (ekeep most E k v is) = lnext most (ekeys E) k := by
  have hlen := ekeep_len (k := k) (v := v) (is := is) hl
  have hkl : (ekeys (ekeep most E k v is)).length = (ekeep most E k v is).length := List.length_map _
  unfold lnext
  dsimp only
  unfold ekeep at hlen hkl ⊢
  split at hlen
  · rename_i hf
    rw [if_pos hf] at hkl ⊢
    have e1 : ekeys (ecut k E ++ [⟨k, v, is⟩]) = (ekeys E).filter (fun o => decide (o ≠ k)) ++ [k] := by
      show ((ecut k E ++ [(⟨k, v, is⟩ : En)]).map (·.key)) = _
      rw [List.map_append]
      exact congrArg (· ++ [k]) (ekeys_cut k E)
    rw [e1] at hkl ⊢
    rw [show ((ekeys E).filter (fun o => decide (o ≠ k)) ++ [k]).length - most = 0 by omega]; rfl
  · rename_i hf
    rw [if_neg hf, if_neg (by omega)] at hkl ⊢
    have hno : k ∉ ekeys E := fun h => hf ((efind_iff k E).2 h)
    have hfil : (ekeys E).filter (fun o => decide (o ≠ k)) = ekeys E := List.filter_eq_self.2 fun x hx => decide_eq_true fun e => hno (e ▸ hx)
    rw [hfil, List.length_append, List.length_map, List.length_singleton]
    split
    · rename_i he
      rw [he, Nat.add_sub_cancel_left]
      cases E with
      | nil => rw [List.length_nil] at he; omega
      | cons e E =>
        show ((E ++ [(⟨k, v, is⟩ : En)]).map (·.key)) = E.map (·.key) ++ [k]
        rw [List.map_append]; rfl
    · rename_i he
      rw [show E.length + 1 - most = 0 by omega]
      show ((E ++ [(⟨k, v, is⟩ : En)]).map (·.key)) = _
      rw [List.map_append]; rfl
theorem ekeys_hit {most : Nat} {E : List En} {k v : Str} {is : Bool} (hn : (ekeys E).Nodup) (hk : k ∈ ekeys E) : (ekeys (ekeep most E k v is)).Perm (ekeys E) := by
  unfold ekeep
  rw [if_pos ((efind_iff k E).2 hk)]
  have e1 : ekeys (ecut k E ++ [⟨k, v, is⟩]) = (ekeys E).filter (fun o => decide (o ≠ k)) ++ [k] := by
    show ((ecut k E ++ [(⟨k, v, is⟩ : En)]).map (·.key)) = _
    rw [List.map_append]
    exact congrArg (· ++ [k]) (ekeys_cut k E)
  rw [e1]
  refine (List.perm_append_singleton k _).trans ?_
  refine (List.perm_ext_iff_of_nodup (List.nodup_cons.2 ⟨fun h => ?_, hn.filter _⟩) hn).2 fun x => ?_
  · exact of_decide_eq_true (List.mem_filter.1 h).2 rfl
  · constructor
    · intro h
      rcases List.mem_cons.1 h with rfl | h
      · exact hk
      · exact (List.mem_filter.1 h).1
    · intro h
      by_cases hx : x = k
      · rw [hx]; exact List.mem_cons_self
      · exact List.mem_cons_of_mem _ (List.mem_filter.2 ⟨h, decide_eq_true hx⟩)
theorem ekeep_nil {most : Nat} (hm : most ≠ 0) (k v : Str) (is : Bool) : ekeep most [] k v is = [⟨k, v, is⟩] := by
  unfold ekeep
  rw [show efind k [] = none from rfl, if_neg (by decide), if_neg hm]
  split <;> rfl
theorem ekeep_one {k v k' v' : Str} {is is' : Bool} : ekeep 1 [⟨k, v, is⟩] k' v' is' = [⟨k', v', is'⟩] := by
  by_cases h : k = k'
  · subst h; simp [ekeep, efind, ecut]
  · simp [ekeep, efind, ecut, h]
theorem efind_one {k v k' : Str} {is : Bool} : (efind k' [⟨k, v, is⟩]).isSome = decide (k = k') := by
  by_cases h : k = k'
  · subst h; simp [efind]
  · simp [efind, h]
end Go.Kv
end

section
set_option linter.unusedVariables false
set_option linter.unusedSimpArgs false
namespace Go.Kv
open Go Go.Vc Go.Dk

/-- an object's name: which hash, and 32 bytes. -/
structure Idn where
  kind : UInt8
  sum : List UInt8
def IdOk (i : Idn) : Prop := i.sum.length = 32
def idC (i : Idn) : List Value := .int .u8 (i.kind.toNat : Int) :: i.sum.map fun b => .int .u8 (b.toNat : Int)
theorem idC_len {i : Idn} (h : IdOk i) : (idC i).length = 33 := by
  unfold idC
  rw [List.length_cons, List.length_map, h]
def id0 : Idn := ⟨0, List.replicate 32 0⟩
theorem id0_ok : IdOk id0 := List.length_replicate
def idSize (k : UInt8) : Nat := if k = 1 then 8 else if k = 2 then 32 else 0
theorem idSize_le (k : UInt8) : idSize k ≤ 32 := by unfold idSize; split <;> (try split) <;> omega
def idGood (i : Idn) : Bool := decide (0 < idSize i.kind) && (i.sum.drop (idSize i.kind)).all fun b => decide (b = 0)
def idText (i : Idn) : Str := if idGood i then ⟨(i.kind :: i.sum.take (idSize i.kind)).toArray⟩ else ⟨#[]⟩
def idParse (s : Str) : Option Idn :=
  match s.toList with
  | [] => none
  | k :: r => if idSize k = 0 ∨ r.length ≠ idSize k then none else some ⟨k, r ++ List.replicate (32 - r.length) 0⟩
theorem zeros_of_all : ∀ (l : List UInt8), (l.all fun b => decide (b = 0)) = true → l = List.replicate l.length 0
  | [], _ => rfl
  | b :: l, h => by
    rw [List.all_cons, Bool.and_eq_true] at h
    rw [List.length_cons, List.replicate_succ, ← zeros_of_all l h.2, of_decide_eq_true h.1]
theorem sum_of_good {i : Idn} (h : IdOk i) (hg : idGood i = true) : i.sum = i.sum.take (idSize i.kind) ++ List.replicate (32 - idSize i.kind) 0 := by
  unfold idGood at hg
  rw [Bool.and_eq_true] at hg
  have := zeros_of_all _ hg.2
  rw [List.length_drop, h] at this
  rw [← this, List.take_append_drop]
theorem idText_nil {i : Idn} : idText i = ⟨#[]⟩ ↔ idGood i = false := by
  unfold idText
  cases hg : idGood i with
  | true => simp
  | false => simp
theorem idText_inj {i j : Idn} (hi : IdOk i) (hj : IdOk j) (gi : idGood i = true) (gj : idGood j = true) (e : idText i = idText j) : i = j := by
  unfold idText at e
  rw [if_pos gi, if_pos gj] at e
  have e2 : i.kind :: i.sum.take (idSize i.kind) = j.kind :: j.sum.take (idSize j.kind) := by
    have := congrArg (fun s : Str => s.data.toList) e
    simpa using this
  have ek := (List.cons.inj e2).1
  have es := (List.cons.inj e2).2
  have h1 := sum_of_good hi gi
  have h2 := sum_of_good hj gj
  rw [es, ek] at h1
  obtain ⟨ki, si⟩ := i
  obtain ⟨kj, sj⟩ := j
  dsimp only at *
  rw [ek, h1, ← h2]
theorem idParse_text {i : Idn} (hi : IdOk i) (gi : idGood i = true) : idParse (idText i) = some i := by
  have hl : (i.sum.take (idSize i.kind)).length = idSize i.kind := by rw [List.length_take, hi]; have := idSize_le i.kind; omega
  have h0 : 0 < idSize i.kind := by
    unfold idGood at gi
    rw [Bool.and_eq_true] at gi
    exact of_decide_eq_true gi.1
  unfold idText idParse
  rw [if_pos gi]
  have e : (⟨(i.kind :: i.sum.take (idSize i.kind)).toArray⟩ : Str).toList = i.kind :: i.sum.take (idSize i.kind) := by simp [ByteArray.toList_eq]
  rw [e]
  dsimp only
  rw [if_neg (by omega), hl, ← sum_of_good hi gi]
end Go.Kv
end

section
set_option linter.unusedVariables false
namespace Go.Kv
open Go

theorem decode_small {s : ByteArray} {i : Nat} (h : (s.get! i).toNat < 128) : Utf8.decode s i = ((s.get! i).toNat, 1) := by
  unfold Utf8.decode
  simp only [Nat.add_zero]
  rw [if_pos h]
theorem decode_big {s : ByteArray} {i : Nat} (h : 128 ≤ (s.get! i).toNat) : 128 ≤ (Utf8.decode s i).1 := by
  have e : Utf8.runeError = 65533 := rfl
  unfold Utf8.decode
  simp only [Nat.add_zero]
  rw [if_neg (by omega)]
  split
  · split
    · assumption
    · rw [e]; omega
  · split
    · split
      · rename_i h2
        rw [Bool.and_eq_true] at h2
        have := of_decide_eq_true h2.1
        dsimp only; omega
      · rw [e]; omega
    · split
      · split
        · rename_i h2
          rw [Bool.and_eq_true] at h2
          have := of_decide_eq_true h2.1
          dsimp only; omega
        · rw [e]; omega
      · rw [e]; omega
end Go.Kv
end

section
set_option linter.unusedVariables false
set_option linter.unusedSimpArgs false
namespace Go.Kv
open Go Go.Vc Go.Dk

/-- a byte that a branch's name may have. -/
def nameB (b : UInt8) : Bool := (decide (97 ≤ b.toNat) && decide (b.toNat ≤ 122)) || (decide (48 ≤ b.toNat) && decide (b.toNat ≤ 57)) || decide (b.toNat = 45)
def nameOk (s : Str) : Bool := s.data.toList.all nameB && decide (0 < s.size) && decide (s.size ≤ 16)
theorem nameOk_len {s : Str} (h : nameOk s = true) : s.size ≤ 16 := by
  unfold nameOk at h
  rw [Bool.and_eq_true] at h
  exact of_decide_eq_true h.2
/-- a text without its first byte. -/
def tail1 (s : Str) : Str := ⟨(s.data.toList.drop 1).toArray⟩
/-- does a text begin with an r? -/
def isR (s : Str) : Bool := decide (s.data.toList.head? = some 114)
/-- an object's name of 32 bytes. -/
abbrev Id' := {i : Idn // IdOk i}
theorem idParse_ok {s : Str} {i : Idn} (h : idParse s = some i) : IdOk i := by
  unfold idParse at h
  split at h
  · cases h
  · rename_i k r _
    split at h
    · cases h
    · rename_i hn
      cases h
      have := idSize_le k
      show (r ++ List.replicate (32 - r.length) (0 : UInt8)).length = 32
      rw [List.length_append, List.length_replicate]
      omega
def parse' (s : Str) : Option Id' := match h : idParse s with
  | none => none
  | some i => some ⟨i, idParse_ok h⟩
theorem parse'_none {s : Str} (h : idParse s = none) : parse' s = none := by
  unfold parse'
  split
  · rfl
  · rename_i h2; rw [h] at h2; cases h2
theorem parse'_some {s : Str} {i : Idn} (h : idParse s = some i) : parse' s = some ⟨i, idParse_ok h⟩ := by
  unfold parse'
  split
  · rename_i h2; rw [h] at h2; cases h2
  · rename_i h2
    rw [h] at h2; cases h2; rfl
theorem parse'_map (s : Str) : (parse' s).map (·.1) = idParse s := by
  cases h : idParse s with
  | none => rw [parse'_none h]; rfl
  | some i => rw [parse'_some h]; rfl
/-- branches' pairs read: n were read so far; none: there is one of another form, or one too many. -/
def refL : Nat → Ps Str → Option (List (Str × Id'))
  | _, [] => some []
  | n, p :: ps => match parse' p.2 with
    | none => none
    | some i => if nameOk (tail1 p.1) && decide (n < 32) then (refL (n + 1) ps).map ((tail1 p.1, i) :: ·) else none
theorem refL_take : ∀ (l : Ps Str) (n m : Nat), n ≤ 32 → 33 ≤ n + m → refL n (l.take m) = refL n l
  | [], _, _, _, _ => by simp
  | p :: l, n, 0, h1, h2 => by omega
  | p :: l, n, m + 1, h1, h2 => by
    rw [List.take_succ_cons]
    unfold refL
    cases parse' p.2 with
    | none => rfl
    | some i =>
      dsimp only
      by_cases h : nameOk (tail1 p.1) && decide (n < 32)
      · rw [if_pos h, if_pos h]
        rw [Bool.and_eq_true] at h
        have := of_decide_eq_true h.2
        rw [refL_take l (n + 1) m (by omega) (by omega)]
      · rw [if_neg h, if_neg h]
theorem refL_len : ∀ (l : Ps Str) (n : Nat) (o : List (Str × Id')), refL n l = some o → o.length = l.length
  | [], _, o, h => by
    unfold refL at h; cases h; rfl
  | p :: l, n, o, h => by
    unfold refL at h
    cases hp : parse' p.2 with
    | none => rw [hp] at h; cases h
    | some i =>
      rw [hp] at h
      dsimp only at h
      split at h
      · cases h2 : refL (n + 1) l with
        | none => rw [h2] at h; cases h
        | some o2 =>
          rw [h2] at h
          cases h
          rw [List.length_cons, List.length_cons, refL_len l (n + 1) o2 h2]
      · cases h
theorem bl_r (x y : UInt8) (xs ys : List UInt8) : Op.bytesLess (x :: xs) (y :: ys) = (decide (x < y) || (decide (x = y) && Op.bytesLess xs ys)) := by
  simp only [Op.bytesLess]
  by_cases h1 : x < y
  · simp [h1]
  · by_cases h2 : x = y
    · subst h2; simp [h1]
    · simp [h1, h2]
theorem not_lt_r (k : Str) : lt k ⟨#[114]⟩ = false ↔ ∃ b r, k.data.toList = b :: r ∧ 114 ≤ b := by
  show Op.bytesLess k.toList (⟨#[114]⟩ : Str).toList = false ↔ _
  rw [ByteArray.toList_eq, ByteArray.toList_eq]
  cases hk : k.data.toList with
  | nil => simp [Op.bytesLess]
  | cons b r =>
    have : (⟨#[114]⟩ : Str).data.toList = [114] := rfl
    rw [this, bl_r]
    have h0 : Op.bytesLess r [] = false := by cases r <;> rfl
    rw [h0, Bool.and_false, Bool.or_false, decide_eq_false_iff_not]
    constructor
    · intro h; exact ⟨b, r, rfl, UInt8.not_lt.1 h⟩
    · rintro ⟨_, _, e, h⟩; cases e; exact UInt8.not_lt.2 h
theorem isR_ge {k : Str} (h : isR k = true) : lt k ⟨#[114]⟩ = false := by
  unfold isR at h
  have h := of_decide_eq_true h
  refine (not_lt_r k).2 ?_
  cases hk : k.data.toList with
  | nil => rw [hk] at h; cases h
  | cons b r =>
    rw [hk] at h
    cases h
    exact ⟨_, _, rfl, UInt8.le_refl _⟩
theorem isR_stop {j k : Str} (hj : lt j ⟨#[114]⟩ = false) (hn : isR j = false) (hl : lt j k = true) : isR k = false := by
  obtain ⟨b, r, e, h⟩ := (not_lt_r j).1 hj
  unfold isR at hn
  have hn := of_decide_eq_false hn
  rw [e] at hn
  have hb : b ≠ 114 := fun h => hn (by rw [h]; rfl)
  refine decide_eq_false fun h2 => ?_
  cases hk : k.data.toList with
  | nil => rw [hk] at h2; cases h2
  | cons c r2 =>
    rw [hk] at h2
    cases h2
    have hl : Op.bytesLess j.toList k.toList = true := hl
    rw [ByteArray.toList_eq, ByteArray.toList_eq, e, hk, bl_r] at hl
    have h3 : ¬ b < 114 := UInt8.not_lt.2 h
    simp [h3, hb] at hl
theorem takeWhile_r : ∀ {Q : Ps Str}, SrtP Q → (∀ p ∈ Q, lt p.1 ⟨#[114]⟩ = false) → Q.takeWhile (fun p => isR p.1) = Q.filter (fun p => isR p.1)
  | [], _, _ => rfl
  | p :: Q, hs, hq => by
    have hp := List.pairwise_cons.1 (hs : Srt (p.1 :: mKeys Q))
    cases h : isR p.1 with
    | true =>
      rw [List.takeWhile_cons_of_pos (p := fun p : Str × Str => isR p.1) h, List.filter_cons_of_pos (p := fun p : Str × Str => isR p.1) h, takeWhile_r (Q := Q) hp.2 fun q hm => hq q (List.mem_cons_of_mem _ hm)]
    | false =>
      rw [List.takeWhile_cons_of_neg (p := fun p : Str × Str => isR p.1) (by rw [h]; decide), List.filter_cons_of_neg (p := fun p : Str × Str => isR p.1) (by rw [h]; decide)]
      symm
      refine List.filter_eq_nil_iff.2 fun q hm => ?_
      rw [isR_stop (hq p List.mem_cons_self) h (hp.1 q.1 (List.mem_map_of_mem (f := fun p : Str × Str => p.1) hm))]
      decide
theorem takeWhile_take {α : Type} (f : α → Bool) : ∀ (l : List α) (n : Nat), (l.take n).takeWhile f = (l.takeWhile f).take n
  | [], n => by simp
  | a :: l, 0 => by simp
  | a :: l, n + 1 => by
    rw [List.take_succ_cons]
    cases h : f a with
    | true => rw [List.takeWhile_cons_of_pos h, List.takeWhile_cons_of_pos h, List.take_succ_cons, takeWhile_take f l n]
    | false => rw [List.takeWhile_cons_of_neg (by rw [h]; decide), List.takeWhile_cons_of_neg (by rw [h]; decide)]; simp
/-- what is scanned from r on, as far as it begins with r, is what begins with r. -/
theorem refL_scan {P : Ps Str} (hs : SrtP P) : refL 0 ((scan P ⟨#[114]⟩ 33).takeWhile fun p => isR p.1) = refL 0 (P.filter fun p => isR p.1) := by
  unfold scan
  rw [takeWhile_take, refL_take _ _ _ (by omega) (by decide), takeWhile_r, List.filter_filter]
  · congr 1
    refine List.filter_congr fun p _ => ?_
    cases h : isR p.1 with
    | true => rw [isR_ge h]; rfl
    | false => rfl
  · exact List.Pairwise.sublist (List.filter_sublist.map _) hs
  · intro p hp
    have := (List.mem_filter.1 hp).2
    simpa using this
end Go.Kv
end

section
set_option linter.unusedVariables false
set_option linter.unusedSimpArgs false
namespace Go.Kv
open Go Go.Vc Go.Dk

theorem idC_one {i : Idn} {v : Value} (h : v ∈ idC i) : (∀ c, v ≠ .agg c) ∧ ∀ c, v ≠ .tuple c := by
  unfold idC at h
  rcases List.mem_cons.1 h with rfl | h
  · exact one_int _ _
  · obtain ⟨b, _, rfl⟩ := List.mem_map.1 h
    exact one_int _ _
def IdE : Enc Id' := ⟨33, fun i => idC i.1, fun i => idC_len i.2, fun i v h => idC_one h⟩
def RefE : Enc (Str × Id') := ⟨34, fun r => .string r.1 :: idC r.2.1, fun r => by rw [List.length_cons, idC_len r.2.2], fun r v h => by
  rcases List.mem_cons.1 h with rfl | h
  · exact one_string _
  · exact idC_one h⟩
theorem idC_inj {i j : Idn} (h : idC i = idC j) : i = j := by
  unfold idC at h
  have h1 := (List.cons.inj h).1
  have h2 := (List.cons.inj h).2
  obtain ⟨a, s⟩ := i
  obtain ⟨b, t⟩ := j
  dsimp only at *
  have ea : a = b := by
    have : (a.toNat : Int) = b.toNat := by injection h1
    exact UInt8.toNat_inj.1 (by exact_mod_cast this)
  have es : s = t := by
    refine (List.map_inj_right (f := fun b : UInt8 => Value.int .u8 (b.toNat : Int)) fun x y hxy => ?_).1 h2
    have : (x.toNat : Int) = y.toNat := by injection hxy
    exact UInt8.toNat_inj.1 (by exact_mod_cast this)
  rw [ea, es]
/-- an array of bytes that came in. -/
theorem dec_arr8 {P : Program} {t e : TypeId} {n : Nat} (ht : P.underlying t = some (.array n e)) (he : P.underlying e = some (.int .u8)) (ce : P.cellsOf e = 1) (ct : P.cellsOf t = n)
    {H : Type} {enc : TypeId × Value → H} {w : World} {base : Nat} {spare : Nat → Bool} {held : Bool} {f : Nat} {cs : List Value} {d : DataW H × List MemPlace} (h : DataW.trod enc P w base spare held f t cs = some d) :
    ∃ l : List UInt8, l.length = n ∧ cs = l.map fun b => .int .u8 (b.toNat : Int) := by
  obtain ⟨xs, m, _, _, hl, hx, hf⟩ := DataW.trod_array ht h
  rw [ct] at hl
  have each : ∀ i, i < n → ∃ b : UInt8, cs[i]? = some (.int .u8 (b.toNat : Int)) := fun i hi => by
    have h1 := hf i hi
    rw [ce, List.getElem?_eq_getElem (by rw [hx]; exact hi)] at h1
    obtain ⟨b, hb, _⟩ := decByte he h1
    refine ⟨b, ?_⟩
    have h2 : ((cs.drop (i * 1)).take 1)[0]? = some (.int .u8 (b.toNat : Int)) := by rw [hb]; rfl
    rw [List.getElem?_take, if_pos (by omega), List.getElem?_drop, Nat.mul_one, Nat.add_zero] at h2
    exact h2
  obtain ⟨X, hX⟩ := Deep.choose_lt each
  refine ⟨(List.range n).map X, by simp, ?_⟩
  refine List.ext_getElem? fun i => ?_
  by_cases hi : i < n
  · rw [hX i hi]; simp [hi]
  · rw [List.getElem?_eq_none (by omega), List.getElem?_eq_none (by simp; omega)]
/-- what a byte is told as, where things are compared. -/
def byteLit (b : UInt8) : Lit := .int .u8 (b.toNat : Int)
theorem byteLit_wf (b : UInt8) : (byteLit b).wf = true := by
  have := b.toNat_lt
  have e1 : IntKind.u8.min = 0 := by decide
  have e2 : IntKind.u8.max = 255 := by decide
  simp only [byteLit, Lit.wf, e1, e2, Bool.and_eq_true, decide_eq_true_eq]
  omega
theorem byteLit_inj {a b : UInt8} (h : byteLit a = byteLit b) : a = b := by
  have : (a.toNat : Int) = b.toNat := by injection h
  exact UInt8.toNat_inj.1 (by exact_mod_cast this)
def idLits (i : Idn) : List Lit := byteLit i.kind :: i.sum.map byteLit
theorem idLits_inj {i j : Idn} (h : idLits i = idLits j) : i = j := by
  unfold idLits at h
  have h1 := byteLit_inj (List.cons.inj h).1
  have h2 := (List.map_inj_right (f := byteLit) fun x y => byteLit_inj).1 (List.cons.inj h).2
  obtain ⟨a, s⟩ := i
  obtain ⟨b, t⟩ := j
  dsimp only at *
  rw [h1, h2]
theorem lits_byte {P : Program} {e : TypeId} (he : P.underlying e = some (.int .u8)) (d : Nat) (b : UInt8) : P.keyLits (d + 1) e [.int .u8 (b.toNat : Int)] = some [byteLit b] := by
  have := byteLit_wf b
  unfold Program.keyLits
  simp only [he]
  rw [if_pos ⟨trivial, this⟩]; rfl
theorem mapM_range {β : Type} {f : Nat → Option β} {g : Nat → β} (n : Nat) (h : ∀ i, i < n → f i = some (g i)) : (List.range n).mapM f = some ((List.range n).map g) := by
  have : ∀ l : List Nat, (∀ i ∈ l, f i = some (g i)) → l.mapM f = some (l.map g) := by
    intro l
    induction l with
    | nil => intro _; rfl
    | cons a l ih =>
      intro h
      rw [List.mapM_cons, h a List.mem_cons_self, ih fun i hi => h i (List.mem_cons_of_mem _ hi)]; rfl
  exact this _ fun i hi => h i (List.mem_range.1 hi)
theorem lits_arr8 {P : Program} {t e : TypeId} {n : Nat} (ht : P.underlying t = some (.array n e)) (he : P.underlying e = some (.int .u8)) (ce : P.cellsOf e = 1) (ct : P.cellsOf t = n) (d : Nat) {l : List UInt8} (hl : l.length = n) :
    P.keyLits (d + 2) t (l.map fun b => .int .u8 (b.toNat : Int)) = some (l.map byteLit) := by
  unfold Program.keyLits
  simp only [ht]
  rw [if_pos (by rw [List.length_map, ct, hl]), mapM_range (g := fun i => [byteLit (l.getD i 0)])]
  · rw [Option.map_some]
    congr 1
    have : (List.range n).map (fun i => [byteLit (l.getD i 0)]) = l.map fun b => [byteLit b] := by
      refine List.ext_getElem (by simp [hl]) fun i h1 h2 => ?_
      have hi : i < l.length := by simpa using h2
      simp [hi]
    rw [this]
    clear this hl
    induction l with
    | nil => rfl
    | cons b l ih => simpa using ih
  · intro i hi
    have hq : l[i]? = some (l[i]'(by omega)) := List.getElem?_eq_getElem (by omega)
    rw [ce, Nat.mul_one]
    have : ((l.map fun b => Value.int .u8 (b.toNat : Int)).drop i).take 1 = [.int .u8 ((l.getD i 0).toNat : Int)] := by
      have h3 : l.drop i = l[i]'(by omega) :: l.drop (i + 1) := List.drop_eq_getElem_cons (by omega)
      rw [← List.map_drop, h3, List.map_cons, List.take_succ_cons, List.take_zero, List.getD_eq_getElem?_getD, hq]; rfl
    rw [this]
    exact lits_byte he d _
theorem lits_str {P : Program} {e : TypeId} (he : P.underlying e = some .string) (d : Nat) {s : Str} (hs : s.size ≤ 9223372036854775807) : P.keyLits (d + 1) e [.string s] = some [.string s.data.toList] := by
  unfold Program.keyLits
  simp only [he]
  rw [if_pos (by unfold maxLen; exact hs)]
theorem lits_struct2 {P : Program} {t : TypeId} {f0 f1 : Field} {cs : List Value} {d : Nat} {l0 l1 : List Lit} (ht : P.underlying t = some (.struct #[f0, f1])) (hl : cs.length = P.cellsOf t) (hn : (#[f0, f1] : Array Field).all (·.name != "_") = true)
    (h0 : P.keyLits d f0.type ((cs.drop f0.offset).take (P.cellsOf f0.type)) = some l0) (h1 : P.keyLits d f1.type ((cs.drop f1.offset).take (P.cellsOf f1.type)) = some l1) : P.keyLits (d + 1) t cs = some (l0 ++ l1) := by
  unfold Program.keyLits
  simp only [ht]
  rw [if_pos ⟨hl, hn⟩]
  rw [List.mapM_cons, h0, List.mapM_cons, h1, List.mapM_nil]
  simp
def refLits (r : Str × Id') : List Lit := .string r.1.data.toList :: idLits r.2.1
theorem refLits_inj {r q : Str × Id'} (h : refLits r = refLits q) : r = q := by
  unfold refLits at h
  have h1 := (List.cons.inj h).1
  have h2 := idLits_inj (List.cons.inj h).2
  have h3 : r.1.data.toList = q.1.data.toList := by injection h1
  have h4 : r.1 = q.1 := str_ext (by rw [ByteArray.toList_eq, ByteArray.toList_eq, h3])
  exact Prod.ext h4 (Subtype.ext h2)
/-- structs, and what lies in them, compared. -/
theorem reads_deep {P : Program} {t : TypeId} {m D : Nat} {xs ys : Array Value} {lx ly : List Lit} {h : Heap} {x y : Operand} {r : Bool} (hm : m ≤ 10000) (hk : P.keyTypeAt m t = true) (hg : P.eqGuardType P.depth t = false)
    (fx : (Value.agg xs).formed P t = true) (fy : (Value.agg ys).formed P t = true) (ex : P.keyLits D t xs.toList = some lx) (ey : P.keyLits D t ys.toList = some ly) (hr : r = true ↔ lx = ly) :
    Reads P (eqSem .eql t x y (.agg xs) (.agg ys)) h (.bool r) ∧ Reads P (eqSem .neq t x y (.agg xs) (.agg ys)) h (.bool !r) := by
  have run : ∀ w : World, (Op.equal t (.agg xs) (.agg ys)).run P w = .ok r w := fun w => by
    unfold Op.equal Op.maxDepth
    obtain ⟨q, hq, hi⟩ := run_equalIn_deep (P := P) (10000 - m) m t hk w D D (.agg xs) (.agg ys) lx ly fx fy ex ey
    rw [Nat.sub_add_cancel hm] at hq
    rw [hq]
    congr 1
    have h2 := hi.trans hr.symm
    cases q <;> cases r <;> simp_all
  have g : ∀ (w : World) op, (eqGuard op t x y (.agg xs) (.agg ys)).run P w = .ok () w := fun w op => by
    cases op <;> first | rfl | simp [eqGuard, hg]
  constructor <;> refine ⟨fun w _ => ?_⟩ <;> simp [eqSem, g, binOp, run]
end Go.Kv
end
