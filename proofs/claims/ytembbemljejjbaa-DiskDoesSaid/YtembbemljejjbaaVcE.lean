/-
  The symbolic run of a function's code is sound: what it asks suffices for a call. Conditions: none.
-/
import Derived.Test.YtembbemljejjbaaVcD
import Derived.Scope
set_option linter.unusedSimpArgs false
set_option linter.unusedVariables false
namespace Go.Vc
open Go

/- ------------------------------------------------------------------ typed relations over slots -/

def ScT : Sc → Type → Type
  | .int _, R => Int → R
  | .bool, R => Bool → R
  | .str, R => ByteArray → R
  | .ptr, R => Option Addr → R
  | .slice, R => Option Addr → Nat → Nat → R
  | .map, R => Option Nat → R
  | .raw, R => Value → R
def ScsT : List Sc → Type → Type
  | [], R => R
  | s :: l, R => ScT s (ScsT l R)
def S1T : S1 → Type → Type
  | .sc s, R => ScT s R
  | .agg l, R => ScsT l R
  | .big, R => Array Value → R
def FnT : List S1 → Type → Type
  | [], R => R
  | s :: l, R => S1T s (FnT l R)

def apSc {R : Type} : (s : Sc) → ScT s R → Value → Option R
  | .int k, f, .int k' n => match eqKind k k' with | true => some (f n) | false => none
  | .bool, f, .bool b => some (f b)
  | .str, f, .string s => some (f s)
  | .ptr, f, .pointer a => some (f a)
  | .slice, f, .slice a n c => some (f a n c)
  | .map, f, .map r => some (f r)
  | .raw, f, v => some (f v)
  | _, _, _ => none
def apScs {R : Type} : (l : List Sc) → ScsT l R → List Value → Option R
  | [], f, [] => some f
  | s :: l, f, v :: vs => match apSc s f v with | some f => apScs l f vs | none => none
  | _, _, _ => none
def apS1 {R : Type} : (s : S1) → S1T s R → Value → Option R
  | .sc s, f, v => apSc s f v
  | .agg l, f, .agg cs => apScs l f cs.toList
  | .big, f, .agg cs => some (f cs)
  | _, _, _ => none
def ap {R : Type} : (l : List S1) → FnT l R → List Value → Option R
  | [], f, [] => some f
  | s :: l, f, v :: vs => match apS1 s f v with | some f => ap l f vs | none => none
  | _, _, _ => none

def alSc : Sc → (Value → Prop) → Prop
  | .int k, K => ∀ n : Int, K (.int k n)
  | .bool, K => ∀ b : Bool, K (.bool b)
  | .str, K => ∀ s : ByteArray, K (.string s)
  | .ptr, K => ∀ a : Option Addr, K (.pointer a)
  | .slice, K => ∀ (a : Option Addr) (n c : Nat), K (.slice a n c)
  | .map, K => ∀ r : Option Nat, K (.map r)
  | .raw, K => ∀ v : Value, K v
def alScs : List Sc → (List Value → Prop) → Prop
  | [], K => K []
  | s :: l, K => alSc s fun v => alScs l fun vs => K (v :: vs)
def alS1 : S1 → (Value → Prop) → Prop
  | .sc s, K => alSc s K
  | .agg l, K => alScs l fun vs => K (.agg vs.toArray)
  | .big, K => ∀ cs : Array Value, K (.agg cs)
def al : List S1 → (List Value → Prop) → Prop
  | [], K => K []
  | s :: l, K => alS1 s fun v => al l fun vs => K (v :: vs)

theorem al_sc {R : Type} {s : Sc} {f : ScT s R} {v : Value} {r : R} {K : Value → Prop} (h : apSc s f v = some r) (hk : alSc s K) : K v := by
  cases s <;> cases v <;> simp only [apSc, reduceCtorEq] at h <;> simp only [alSc] at hk <;> try exact hk _
  case int.int k k' n =>
    cases he : eqKind k k' with
    | true => obtain rfl := eqKind_eq he; exact hk n
    | false => simp [he] at h
  case slice.slice a n c => exact hk a n c
theorem al_scs {R : Type} : ∀ {l : List Sc} {f : ScsT l R} {vs : List Value} {r : R} {K : List Value → Prop}, apScs l f vs = some r → alScs l K → K vs
  | [], f, [], r, K, _, hk => hk
  | [], f, _ :: _, r, K, h, _ => by simp [apScs] at h
  | s :: l, f, [], r, K, h, _ => by simp [apScs] at h
  | s :: l, f, v :: vs, r, K, h, hk => by
    simp only [apScs] at h
    cases hs : apSc s f v with
    | none => simp [hs] at h
    | some f' => simp only [hs] at h; exact al_scs (K := fun vs => K (v :: vs)) h (al_sc hs hk)
theorem al_s1 {R : Type} {s : S1} {f : S1T s R} {v : Value} {r : R} {K : Value → Prop} (h : apS1 s f v = some r) (hk : alS1 s K) : K v := by
  cases s with
  | sc s => exact al_sc h hk
  | agg l =>
    cases v <;> simp only [apS1, reduceCtorEq] at h
    case agg cs => exact al_scs (K := fun vs => K (.agg vs.toArray)) h hk
  | big =>
    cases v <;> simp only [apS1, reduceCtorEq] at h
    case agg cs => exact hk cs
theorem al_all {R : Type} : ∀ {l : List S1} {f : FnT l R} {vs : List Value} {r : R} {K : List Value → Prop}, ap l f vs = some r → al l K → K vs
  | [], f, [], r, K, _, hk => hk
  | [], f, _ :: _, r, K, h, _ => by simp [ap] at h
  | s :: l, f, [], r, K, h, _ => by simp [ap] at h
  | s :: l, f, v :: vs, r, K, h, hk => by
    simp only [ap] at h
    cases hs : apS1 s f v with
    | none => simp [hs] at h
    | some f' => simp only [hs] at h; exact al_all (K := fun vs => K (v :: vs)) h (al_s1 hs hk)

def hp (sh : List S1) (I : FnT sh (Heap → Prop)) (vs : Option (List Value)) (h : Heap) : Prop :=
  match vs with
  | none => False
  | some vs => match ap sh I vs with | some p => p h | none => False
def hn (sh : List S1) (m : FnT sh (Heap → Nat)) (vs : Option (List Value)) (h : Heap) : Nat :=
  match vs with
  | none => 0
  | some vs => match ap sh m vs with | some p => p h | none => 0

theorem hp_al {sh : List S1} {I : FnT sh (Heap → Prop)} {vs : List Value} {h : Heap} {K : List Value → Prop} (hh : hp sh I (some vs) h) (hk : al sh K) : K vs := by
  unfold hp at hh
  simp only at hh
  cases ha : ap sh I vs with
  | none => simp [ha] at hh
  | some p => exact al_all ha hk

/- ------------------------------------------------------------------ code -/

def dsts (ops : Array Oper) : List Nat := ops.toList.filterMap (·.dst)
def asg : Code → List Nat
  | .region _ ops _ => dsts ops
  | .seq a b => asg a ++ asg b
  | .cond _ a b => asg a ++ asg b
  | .block _ c => asg c
  | .loop c => asg c
  | .scope c => asg c
  | _ => []
def firstReg : Code → Option Nat
  | .region id _ _ => some id
  | .seq a b => match firstReg a with | some r => some r | none => firstReg b
  | .block _ c => firstReg c
  | .loop c => firstReg c
  | .scope c => firstReg c
  | _ => none
def isCut (cuts : List Nat) (b : Code) : Bool := match firstReg b with | some r => cuts.contains r | none => false

def scOfV : Value → Sc
  | .int k _ => .int k
  | .bool _ => .bool
  | .string _ => .str
  | .pointer _ => .ptr
  | .slice _ _ _ => .slice
  | .map _ => .map
  | _ => .raw
def s1OfV : Value → S1
  | .agg cs => .agg (cs.toList.map scOfV)
  | v => .sc (scOfV v)

def slots (base : Nat) (S : List Nat) (g : Env0) : List Nat := (List.range base).filter fun t => S.contains t && (lookG g t).isSome
def vals (g : Env0) : List Nat → Option (List Value)
  | [] => some []
  | t :: L => match lookG g t, vals g L with | some v, some vs => some (v :: vs) | _, _ => none
def shs (bigs : List Nat) (g : Env0) (L : List Nat) : List S1 := L.map fun t => match bigs.contains t with
  | true => .big
  | false => match lookG g t with | some v => s1OfV v | none => .sc .raw
def bindG : List Nat → List Value → Env0
  | t :: L, v :: vs => (t, v) :: bindG L vs
  | _, _ => []
def keepG (S : List Nat) : Env0 → Env0
  | [] => []
  | (t, v) :: g => match S.contains t with | true => keepG S g | false => (t, v) :: keepG S g

structure Cfg where
  n : Nat
  base : Nat
  cuts : List Nat := []
  bigs : List Nat := []

def vcC (P : Program) (cf : Cfg) : Code → Env0 → Heap → (Env0 → Heap → Prop) → (Nat → Env0 → Heap → Prop) → (Env0 → Heap → Prop) → Prop
  | .skip, g, h, N, _, _ => N g h
  | .label _, g, h, N, _, _ => N g h
  | .region _ ops draw, g, h, N, _, _ => match !draw || lexB (clsOf P) .any ops with
    | true => vcOps P none [] cf.n ops g (Tr.ofList (List.range ops.size)) [] [] h fun l h => N (merge l g) h
    | false => match Region.noSelect ops && treeOk (clsS P (stS P ops)) .any ops (mkTr (clsS P (stS P ops)) .any ops ops.size (Array.replicate ops.size false)) false ops.size (Array.replicate ops.size false) with
      | false => False
      | true => match stS P ops with
        | [] => vcOps P none [] cf.n ops g (mkTr (clsS P []) .any ops ops.size (Array.replicate ops.size false)) [] [] h fun l h => N (merge l g) h
        | st => ∃ I : Heap → Prop, I h ∧ vcOps P (some I) st cf.n ops g (mkTr (clsS P st) .any ops ops.size (Array.replicate ops.size false)) [] [] h fun l h => N (merge l g) h
  | .seq a b, g, h, N, X, R => match isCut cf.cuts b with
    | false => vcC P cf a g h (fun g h => vcC P cf b g h N X R) X R
    | true => ∃ J : FnT (shs cf.bigs g (slots cf.base (asg a) g)) (Heap → Prop),
        vcC P cf a g h (fun g' h' => hp _ J (vals g' (slots cf.base (asg a) g)) h') X R ∧
        al (shs cf.bigs g (slots cf.base (asg a) g)) fun vs => ∀ h', hp _ J (some vs) h' →
          vcC P cf b (bindG (slots cf.base (asg a) g) vs ++ keepG (asg a) g) h' N X R
  | .cond c a b, g, h, N, X, R => match c with
    | .tmp t => match lookG g t with
      | some (.bool x) => br x (vcC P cf a ((t, .bool true) :: g) h N X R) (vcC P cf b ((t, .bool false) :: g) h N X R)
      | _ => False
    | .const (.bool x) => br x (vcC P cf a g h N X R) (vcC P cf b g h N X R)
    | _ => False
  | .block id c, g, h, N, X, R => vcC P cf c g h N (fun i g h => match Nat.beq i id with | true => N g h | false => X i g h) R
  | .loop c, g, h, _, X, R => ∃ (I : FnT (shs cf.bigs g (slots cf.base (asg c) g)) (Heap → Prop)) (m : FnT (shs cf.bigs g (slots cf.base (asg c) g)) (Heap → Nat)),
      hp _ I (vals g (slots cf.base (asg c) g)) h ∧
      al (shs cf.bigs g (slots cf.base (asg c) g)) fun vs => ∀ h', hp _ I (some vs) h' →
        vcC P cf c (bindG (slots cf.base (asg c) g) vs ++ keepG (asg c) g) h'
          (fun g2 h2 => hp _ I (vals g2 (slots cf.base (asg c) g)) h2 ∧ hn _ m (vals g2 (slots cf.base (asg c) g)) h2 < hn _ m (some vs) h') X R
  | .exit id, g, h, _, X, _ => X id g h
  | .scope c, g, h, N, X, R => vcC P cf c g h N X R
  | .ret, g, h, _, _, R => R g h
  | _, _, _, _, _, _ => False

structure Inv0 (n : Nat) (g : Env0) (a : Act) : Prop where
  size : a.tmps.size = n
  look : ∀ t v, lookG g t = some v → a.tmps[t]? = some v

theorem lookG_del {t u : Nat} {v : Value} : ∀ {g : Env0}, lookG (delG t g) u = some v → u ≠ t ∧ lookG g u = some v
  | [], h => by simp [delG, lookG] at h
  | (s, x) :: g, h => by
    simp only [delG] at h
    cases hb : Nat.beq s t with
    | true =>
      simp only [hb] at h
      obtain ⟨h1, h2⟩ := lookG_del h
      refine ⟨h1, ?_⟩
      have := Nat.eq_of_beq_eq_true hb
      subst this
      simp only [lookG]
      cases hb' : Nat.beq s u with
      | true => exact absurd (Nat.eq_of_beq_eq_true hb').symm h1
      | false => exact h2
    | false =>
      simp only [hb, lookG] at h
      simp only [lookG]
      cases hb' : Nat.beq s u with
      | true =>
        simp only [hb'] at h
        exact ⟨fun e => (by subst e; rw [hb] at hb'; cases hb'), h⟩
      | false =>
        simp only [hb'] at h
        exact lookG_del h

theorem lookG_merge {t : Nat} {v : Value} : ∀ {l : Env} {g : Env0}, lookG (merge l g) t = some v → (t, [], v) ∈ l ∨ (lookG g t = some v ∧ lookL l t = none)
  | [], g, h => .inr ⟨h, rfl⟩
  | (s, [], x) :: l, g, h => by
    simp only [merge, lookG] at h
    cases hb : Nat.beq s t with
    | true =>
      simp only [hb, Option.some.injEq] at h
      subst h
      rw [Nat.eq_of_beq_eq_true hb]
      exact .inl List.mem_cons_self
    | false =>
      simp only [hb] at h
      rcases lookG_merge h with h1 | ⟨h1, h2⟩
      · exact .inl (List.mem_cons_of_mem _ h1)
      · exact .inr ⟨h1, by simp only [lookL, hb]; exact h2⟩
  | (s, x :: p, y) :: l, g, h => by
    simp only [merge] at h
    obtain ⟨h1, h⟩ := lookG_del h
    rcases lookG_merge h with h2 | ⟨h2, h3⟩
    · exact .inl (List.mem_cons_of_mem _ h2)
    · refine .inr ⟨h2, ?_⟩
      simp only [lookL]
      cases hb : Nat.beq s t with
      | true => exact absurd (Nat.eq_of_beq_eq_true hb).symm h1
      | false => exact h3

theorem Inv.merge {n : Nat} {l : Env} {g : Env0} {D : List Path} {a : Act} (hi : Inv n l g D a) : Inv0 n (merge l g) a :=
  ⟨hi.size, fun t v h => by
    rcases lookG_merge h with h | ⟨h1, h2⟩
    · exact (hi.agL _ _ _ h).1 rfl
    · exact hi.agG t v h1 h2⟩

theorem Inv0.toInv {n : Nat} {g : Env0} {a : Act} (hi : Inv0 n g a) : Inv n [] g [] a :=
  ⟨hi.size, fun _ _ _ h => (by cases h), fun t v h _ => hi.look t v h, fun _ _ _ h => (by cases h), fun _ h => (by cases h), fun _ h => (by cases h)⟩

theorem lookG_append {t : Nat} {v : Value} : ∀ {g g' : Env0}, lookG (g ++ g') t = some v → lookG g t = some v ∨ lookG g' t = some v
  | [], _, h => .inr h
  | (s, x) :: g, g', h => by
    simp only [List.cons_append, lookG] at h ⊢
    cases hb : Nat.beq s t with
    | true => simp only [hb] at h; exact .inl h
    | false => simp only [hb] at h; exact lookG_append h
theorem lookG_bind {f : Nat → Value} {t : Nat} {v : Value} : ∀ {L : List Nat}, lookG (bindG L (L.map f)) t = some v → t ∈ L ∧ v = f t
  | [], h => by simp [bindG, lookG] at h
  | s :: L, h => by
    simp only [List.map_cons, bindG, lookG] at h
    cases hb : Nat.beq s t with
    | true =>
      simp only [hb, Option.some.injEq] at h
      rw [Nat.eq_of_beq_eq_true hb] at h ⊢
      exact ⟨List.mem_cons_self, h.symm⟩
    | false =>
      simp only [hb] at h
      exact ⟨List.mem_cons_of_mem _ (lookG_bind h).1, (lookG_bind h).2⟩
theorem lookG_keep {S : List Nat} {t : Nat} {v : Value} : ∀ {g : Env0}, lookG (keepG S g) t = some v → t ∉ S ∧ lookG g t = some v
  | [], h => by simp [keepG, lookG] at h
  | (s, x) :: g, h => by
    simp only [keepG] at h
    cases hS : S.contains s with
    | true =>
      simp only [hS] at h
      obtain ⟨h1, h2⟩ := lookG_keep h
      refine ⟨h1, ?_⟩
      simp only [lookG]
      cases hb : Nat.beq s t with
      | true =>
        rw [Nat.eq_of_beq_eq_true hb] at hS
        exact absurd (by simpa using hS) h1
      | false => exact h2
    | false =>
      simp only [hS, lookG] at h
      simp only [lookG]
      cases hb : Nat.beq s t with
      | true =>
        simp only [hb] at h
        rw [Nat.eq_of_beq_eq_true hb] at hS
        exact ⟨by simpa using hS, h⟩
      | false => simp only [hb] at h; exact lookG_keep h

def actVal (a : Act) (t : Nat) : Value := a.tmps.getD t undef
theorem vals_act {n : Nat} {g : Env0} {a : Act} (hi : Inv0 n g a) : ∀ {L : List Nat} {vs : List Value}, vals g L = some vs → vs = L.map (actVal a)
  | [], vs, h => by simp [vals] at h; exact h
  | t :: L, vs, h => by
    simp only [vals] at h
    cases hl : lookG g t with
    | none => simp [hl] at h
    | some v =>
      cases hv : vals g L with
      | none => simp [hl, hv] at h
      | some vs' =>
        simp only [hl, hv, Option.some.injEq] at h
        subst h
        rw [List.map_cons, ← vals_act hi hv]
        have := hi.look t v hl
        simp [actVal, this]

theorem hp_vals {n : Nat} {g : Env0} {a : Act} {sh : List S1} {I : FnT sh (Heap → Prop)} {L : List Nat} {h : Heap} (hi : Inv0 n g a) (hh : hp sh I (vals g L) h) :
    hp sh I (some (L.map (actVal a))) h := by
  cases hv : vals g L with
  | none => rw [hv] at hh; exact hh.elim
  | some vs => rw [hv, vals_act hi hv] at hh; exact hh
theorem hn_vals {n : Nat} {g : Env0} {a : Act} {sh : List S1} {m : FnT sh (Heap → Nat)} {I : FnT sh (Heap → Prop)} {L : List Nat} {h : Heap} (hi : Inv0 n g a) (hh : hp sh I (vals g L) h) :
    hn sh m (vals g L) h = hn sh m (some (L.map (actVal a))) h := by
  cases hv : vals g L with
  | none => rw [hv] at hh; exact hh.elim
  | some vs => rw [vals_act hi hv]

theorem slots_in {n base : Nat} {S : List Nat} {g : Env0} {a : Act} (hi : Inv0 n g a) {t : Nat} (h : t ∈ slots base S g) : t ∈ S ∧ t < n := by
  unfold slots at h
  rw [List.mem_filter] at h
  simp only [Bool.and_eq_true] at h
  refine ⟨by simpa using h.2.1, ?_⟩
  obtain ⟨v, hv⟩ := Option.isSome_iff_exists.1 h.2.2
  have := hi.look t v hv
  rw [← hi.size]
  exact (Array.getElem?_eq_some_iff.1 this).1

theorem Inv0.bind {n : Nat} {g : Env0} {a0 a : Act} {S : List Nat} {L : List Nat} (hi : Inv0 n g a0) (hL : ∀ t ∈ L, t < n) (hf : Fr S a0 a) (hs : a.tmps.size = n) :
    Inv0 n (bindG L (L.map (actVal a)) ++ keepG S g) a := by
  refine ⟨hs, fun t v h => ?_⟩
  rcases lookG_append h with h | h
  · obtain ⟨h1, rfl⟩ := lookG_bind h
    have : t < a.tmps.size := by rw [hs]; exact hL t h1
    simp [actVal, this]
  · obtain ⟨h1, h2⟩ := lookG_keep h
    rw [hf.1 t h1]; exact hi.look t v h2

theorem Fr.mono {S T : List Nat} {a b : Act} (h : Fr S a b) (hs : ∀ t ∈ S, t ∈ T) : Fr T a b := ⟨fun t ht => h.1 t fun hS => ht (hs t hS), h.2⟩

theorem vcC_sound {P : Program} {cf : Cfg} {w0 : World} (hm : P.follows .mixedOrders = true) :
    ∀ (c : Code) (S : List Nat) (a0 : Act) (Q : Exit → Act → World → Prop) (g : Env0) (a : Act) (w : World) (N : Env0 → Heap → Prop) (X : Nat → Env0 → Heap → Prop) (R : Env0 → Heap → Prop),
      Inv0 cf.n g a → Fr S a0 a → Sane w0 w → (∀ t ∈ asg c, t ∈ S) →
      (∀ g a w, Inv0 cf.n g a → Fr S a0 a → Sane w0 w → N g w.heap → Q .normal a w) →
      (∀ i g a w, Inv0 cf.n g a → Fr S a0 a → Sane w0 w → X i g w.heap → Q (.exit i) a w) →
      (∀ g a w, Inv0 cf.n g a → Fr S a0 a → Sane w0 w → R g w.heap → Q .ret a w) →
      vcC P cf c g w.heap N X R → c.wp P Q a w := by
  intro c
  induction c with
  | skip => exact fun S a0 Q g a w N X R hi hf hs _ hN _ _ h => wp_skip (hN g a w hi hf hs h)
  | label l => exact fun S a0 Q g a w N X R hi hf hs _ hN _ _ h => wp_label (hN g a w hi hf hs h)
  | exit id => exact fun S a0 Q g a w N X R hi hf hs _ _ hX _ h => wp_exit (hX id g a w hi hf hs h)
  | ret => exact fun S a0 Q g a w N X R hi hf hs _ _ _ hR h => wp_ret (hR g a w hi hf hs h)
  | goto l => intro S a0 Q g a w N X R _ _ _ _ _ _ _ h; exact h.elim
  | refuse l => intro S a0 Q g a w N X R _ _ _ _ _ _ _ h; exact h.elim
  | rangeFunc f ps x y _ _ => intro S a0 Q g a w N X R _ _ _ _ _ _ _ h; exact h.elim
  | region id ops draw =>
    intro S a0 Q g a w N X R hi hf hs hS hN _ _ h
    simp only [vcC] at h
    have fin : ∀ a w', Sane w w' → (∃ g', Inv0 cf.n g' a ∧ Fr S a0 a ∧ N g' w'.heap) → Q .normal a w' := fun a w' hs' ⟨g', h1, h2, h3⟩ => hN g' a w' h1 h2 (hs.trans hs') h3
    have sound : ∀ (iv : Option (Heap → Prop)) (st : List Nat) (t : Tr), vcOps P iv st cf.n ops g t [] [] w.heap (fun l h => N (merge l g) h) →
        vTree P (ivP iv st ops) (clsS P st) ops (fun a h => ∃ g', Inv0 cf.n g' a ∧ Fr S a0 a ∧ N g' h) t a w.heap := fun iv st t h =>
      vcOps_sound (P := P) (n := cf.n) (ops := ops) (g := g) (S := S) (a0 := a0) (Q := fun a h => ∃ g', Inv0 cf.n g' a ∧ Fr S a0 a ∧ N g' h)
        (fun o ho d hd => hS d (List.mem_filterMap.2 ⟨o, ho, hd⟩))
        (fun l D a h hi hf hk => ⟨_, hi.merge, hf, hk⟩) t [] [] a w.heap hi.toInv hf h
    have c0 : clsS P [] = clsOf P := by
      funext o
      have : isSt [] o = false := by unfold isSt; split <;> rfl
      unfold clsS
      rw [this]
      cases clsOf P o <;> rfl
    cases hd : !draw || lexB (clsOf P) .any ops with
    | false =>
      simp only [hd] at h
      cases draw with
      | false => simp at hd
      | true =>
        cases ht : Region.noSelect ops && treeOk (clsS P (stS P ops)) .any ops (mkTr (clsS P (stS P ops)) .any ops ops.size (Array.replicate ops.size false)) false ops.size (Array.replicate ops.size false) with
        | false => simp [ht] at h
        | true =>
          simp only [ht] at h
          rw [Bool.and_eq_true] at ht
          cases hst : stS P ops with
          | nil =>
            rw [hst] at ht h
            simp only at h
            exact wp_region_tree (J := J0) (cl := clsS P []) car0 hm ht.1 ht.2 fin trivial (sound none [] _ h)
          | cons d ds =>
            rw [hst] at ht h
            simp only at h
            obtain ⟨I, hI, h⟩ := h
            exact wp_region_tree (J := ivP (some I) (d :: ds) ops) (cl := clsS P (d :: ds)) car_ivP hm ht.1 ht.2 fin (fun _ => hI) (sound (some I) (d :: ds) _ h)
    | true =>
      simp only [hd] at h
      have hops := vList_of_tree _ _ _ (sound none [] _ h)
      rw [c0] at hops
      cases draw with
      | false => exact wp_region_seq (cl := clsOf P) fin hops
      | true => exact wp_region_lex (cl := clsOf P) hm (by simpa using hd) fin hops
  | scope c ih =>
    intro S a0 Q g a w N X R hi hf hs hS hN hX hR h
    exact wp_scope_straight (ih S a0 _ g a w N X R hi hf hs hS hN hX hR h)
  | block id c ih =>
    intro S a0 Q g a w N X R hi hf hs hS hN hX hR h
    refine wp_block (ih S a0 _ g a w N _ R hi hf hs hS hN (fun i g a w h1 h2 h3 h4 => ?_) hR h)
    show Exit.inBlock id Q (.exit i) a w
    simp only [Exit.inBlock]
    cases hb : Nat.beq i id with
    | true =>
      simp only [hb] at h4
      rw [if_pos (Nat.eq_of_beq_eq_true hb)]; exact hN g a w h1 h2 h3 h4
    | false =>
      simp only [hb] at h4
      rw [if_neg (Nat.ne_of_beq_eq_false hb)]; exact hX i g a w h1 h2 h3 h4
  | cond c x y ihx ihy =>
    intro S a0 Q g a w N X R hi hf hs hS hN hX hR h
    have hx : ∀ t ∈ asg x, t ∈ S := fun t ht => hS t (List.mem_append_left _ ht)
    have hy : ∀ t ∈ asg y, t ∈ S := fun t ht => hS t (List.mem_append_right _ ht)
    cases c with
    | tmp t =>
      simp only [vcC] at h
      cases hl : lookG g t with
      | none => simp [hl] at h
      | some v =>
        cases v <;> simp [hl] at h
        case bool b =>
          have ht := hi.look t _ hl
          have he : a.eval (.tmp t) = .bool b := by simp [Act.eval, ht]
          have hi' : ∀ b', b = b' → Inv0 cf.n ((t, .bool b') :: g) a := fun b' e => ⟨hi.size, fun s v hv => by
            subst e
            simp only [lookG] at hv
            cases hb : Nat.beq t s with
            | true =>
              simp only [hb, Option.some.injEq] at hv
              rw [← Nat.eq_of_beq_eq_true hb, ← hv]; exact ht
            | false => simp only [hb] at hv; exact hi.look s v hv⟩
          exact wp_cond_split he (fun e => ihx S a0 Q _ a w N X R (hi' _ e) hf hs hx hN hX hR ((br_elim h).1 e))
            (fun e => ihy S a0 Q _ a w N X R (hi' _ e) hf hs hy hN hX hR ((br_elim h).2 e))
    | const v =>
      simp only [vcC] at h
      cases v <;> simp at h
      case bool b =>
        exact wp_cond_split (t := b) rfl (fun e => ihx S a0 Q _ a w N X R hi hf hs hx hN hX hR ((br_elim h).1 e))
          (fun e => ihy S a0 Q _ a w N X R hi hf hs hy hN hX hR ((br_elim h).2 e))
    | _ => simp [vcC] at h
  | seq x y ihx ihy =>
    intro S a0 Q g a w N X R hi hf hs hS hN hX hR h
    have hx : ∀ t ∈ asg x, t ∈ S := fun t ht => hS t (List.mem_append_left _ ht)
    have hy : ∀ t ∈ asg y, t ∈ S := fun t ht => hS t (List.mem_append_right _ ht)
    simp only [vcC] at h
    refine wp_seq ?_
    cases hc : isCut cf.cuts y with
    | false =>
      simp only [hc] at h
      exact ihx S a0 _ g a w _ X R hi hf hs hx (fun g a w h1 h2 h3 h4 => ihy S a0 Q g a w N X R h1 h2 h3 hy hN hX hR h4) hX hR h
    | true =>
      simp only [hc] at h
      obtain ⟨J, h1, h2⟩ := h
      have hL : ∀ t ∈ slots cf.base (asg x) g, t < cf.n := fun t ht => (slots_in hi ht).2
      refine ihx (asg x) a _ g a w _ X R hi (Fr.refl _ _) hs (fun t ht => ht) (fun g' a' w' k1 k2 k3 k4 => ?_)
        (fun i g a w k1 k2 k3 k4 => hX i g a w k1 (hf.trans (k2.mono hx)) k3 k4) (fun g a w k1 k2 k3 k4 => hR g a w k1 (hf.trans (k2.mono hx)) k3 k4) h1
      have hh := hp_vals k1 k4
      exact ihy S a0 Q _ a' w' N X R (hi.bind hL k2 k1.size) (hf.trans (k2.mono hx)) k3 hy hN hX hR (hp_al hh h2 _ hh)
  | loop c ih =>
    intro S a0 Q g a w N X R hi hf hs hS hN hX hR h
    simp only [vcC] at h
    obtain ⟨I, m, h1, h2⟩ := h
    have hL : ∀ t ∈ slots cf.base (asg c) g, t < cf.n := fun t ht => (slots_in hi ht).2
    refine wp_loop (fun a' w' => a'.tmps.size = cf.n ∧ Fr (asg c) a a' ∧ Sane w0 w' ∧ hp _ I (some ((slots cf.base (asg c) g).map (actVal a'))) w'.heap)
      (fun a' w' => hn _ m (some ((slots cf.base (asg c) g).map (actVal a'))) w'.heap) ⟨hi.size, Fr.refl _ _, hs, hp_vals hi h1⟩ ?_
    intro a1 w1 ⟨k1, k2, k3, k4⟩
    refine ih (asg c) a1 _ _ a1 w1 _ X R (hi.bind hL k2 k1) (Fr.refl _ _) k3 (fun t ht => ht) (fun g' a' w' q1 q2 q3 q4 => ?_)
      (fun i g a' w q1 q2 q3 q4 => hX i g a' w q1 (hf.trans ((k2.trans q2).mono hS)) q3 q4) (fun g a' w q1 q2 q3 q4 => hR g a' w q1 (hf.trans ((k2.trans q2).mono hS)) q3 q4)
      (hp_al k4 h2 _ k4)
    refine ⟨⟨q1.size, k2.trans q2, q3, hp_vals q1 q4.1⟩, ?_⟩
    rw [← hn_vals (m := m) q1 q4.1]
    exact q4.2

/- ------------------------------------------------------------------ a call -/

def resVals (P : Program) : List ResultVar → Env0 → Heap → (List Value → Prop) → Prop
  | [], _, _, K => K []
  | .tmp t :: r, g, h, K => match lookG g t with
    | some v => resVals P r g h fun vs => K (v :: vs)
    | none => False
  | .cell t ty :: r, g, h, K => match lookG g t with
    | some (.pointer (some p)) => exS1 (s1Of P ty) fun v => Reads P (loadVar ty p) h v ∧ resVals P r g h fun vs => K (v :: vs)
    | _ => False
def one (vs : List Value) : Value := match vs with | [v] => v | vs => .tuple vs.toArray
def argG : Nat → List Value → Env0
  | _, [] => []
  | k, v :: vs => (k, v) :: argG (k + 1) vs

def namedOf (fn : Func) : Nat :=
  (fn.tmpNames.toList.zipIdx.foldl (fun b x => match x.1 with | "" => b | _ => x.2 + 1) 0)

/-- what a call of f comes to. -/
def vcF (P : Program) (fn : Func) (base : Nat) (cuts bigs : List Nat) (args : List Value) (h : Heap) (R : Value → Heap → Prop) : Prop :=
  match fn.body with
  | none => False
  | some c => match Nat.ble args.length fn.ntmps with
    | false => False
    | true => vcC P { n := fn.ntmps, base, cuts, bigs } c (argG 0 args) h
      (fun g h => resVals P fn.results.toList g h fun vs => R (one vs) h) (fun _ _ _ => False) (fun g h => resVals P fn.results.toList g h fun vs => R (one vs) h)

theorem lookG_arg {t : Nat} {v : Value} : ∀ {l : List Value} {k : Nat}, lookG (argG k l) t = some v → ∃ j, t = k + j ∧ l[j]? = some v
  | [], k, h => by simp [argG, lookG] at h
  | x :: l, k, h => by
    simp only [argG, lookG] at h
    cases hb : Nat.beq k t with
    | true =>
      simp only [hb, Option.some.injEq] at h
      exact ⟨0, (Nat.eq_of_beq_eq_true hb).symm, by simp [h]⟩
    | false =>
      simp only [hb] at h
      obtain ⟨j, rfl, hj⟩ := lookG_arg h
      exact ⟨j + 1, by omega, by simpa using hj⟩

def resOf (tmps : Array Value) : ResultVar → Sem Value
  | .tmp t => pure (tmps.getD t undef)
  | .cell a t => do loadVar t (← asAddr (tmps.getD a undef))

theorem resVals_run {P : Program} {n : Nat} {g : Env0} {a : Act} {w : World} (hi : Inv0 n g a) : ∀ {rs : List ResultVar} {K : List Value → Prop}, resVals P rs g w.heap K →
    ∃ vs, (rs.mapM (resOf a.tmps)).run P w = .ok vs w ∧ K vs
  | [], K, h => ⟨[], by simp, h⟩
  | .tmp t :: rs, K, h => by
    simp only [resVals] at h
    cases hl : lookG g t with
    | none => simp [hl] at h
    | some v =>
      simp only [hl] at h
      obtain ⟨vs, h1, h2⟩ := resVals_run hi h
      refine ⟨v :: vs, ?_, h2⟩
      have := hi.look t v hl
      have e : a.tmps.getD t undef = v := by simp [this]
      have e1 : (resOf a.tmps (.tmp t)).run P w = .ok v w := by show Result.ok (a.tmps.getD t undef) w = _; rw [e]
      rw [List.mapM_cons]
      simp only [Sem.run_bind, Sem.run_pure, Result.andThen_ok, h1, e1]
  | .cell t ty :: rs, K, h => by
    simp only [resVals] at h
    cases hl : lookG g t with
    | none => simp [hl] at h
    | some v =>
      simp only [hl] at h
      cases v <;> (try simp only at h) <;> try exact h.elim
      case pointer p =>
        cases p with
        | none => exact h.elim
        | some p =>
          obtain ⟨v, hr, h⟩ := exS1_some h
          obtain ⟨vs, h1, h2⟩ := resVals_run hi h
          refine ⟨v :: vs, ?_, h2⟩
          have := hi.look t _ hl
          have e : a.tmps.getD t undef = .pointer (some p) := by simp [this]
          have e1 : (resOf a.tmps (.cell t ty)).run P w = .ok v w := by
            have := hr.run w rfl
            simp only [resOf, e, asAddr]
            exact this
          rw [List.mapM_cons]
          simp only [Sem.run_bind, Sem.run_pure, Result.andThen_ok, h1, e1]

theorem HC_of_vc {P : Program} {f : FuncId} {fn : Func} {base : Nat} {cuts bigs : List Nat} {args : List Value} {h : Heap} {R : Value → Heap → Prop}
    (hm : P.follows .mixedOrders = true) (hf : P.funcs[f]? = some fn) (hh : vcF P fn base cuts bigs args h R) : HC P f args.toArray h R := by
  unfold vcF at hh
  refine ⟨?_⟩
  intro w hw
  cases hb : fn.body with
  | none => simp [hb] at hh
  | some c =>
    simp only [hb] at hh
    cases hlen : Nat.ble args.length fn.ntmps with
    | false => simp [hlen] at hh
    | true =>
      simp only [hlen] at hh
      have hlen' := Nat.le_of_ble_eq_true hlen
      subst hw
      refine calls_of_wp hf hb ?_
      have ret : ∀ (e : Exit), (e = .normal ∨ e = .ret) → ∀ g a w', Inv0 fn.ntmps g a → Fr (asg c) { tmps := args.toArray ++ Array.replicate (fn.ntmps - args.toArray.size) undef, defers := [] } a → Sane w w' →
          (resVals P fn.results.toList g w'.heap fun vs => R (one vs) w'.heap) → bodyPost P fn (fun e w' => ∃ v, e = .returned v ∧ Sane w w' ∧ R v w'.heap) e a w' := by
        intro e he g a w' k1 k2 k3 k4
        obtain ⟨vs, r1, r2⟩ := resVals_run k1 k4
        have hd : a.defers = [] := k2.2
        have hres : (results fn a.tmps).run P w' = .ok (one vs) w' := by
          have e0 : results fn a.tmps = (do let vs ← fn.results.mapM (resOf a.tmps); pure (if h : vs.size = 1 then vs[0] else .tuple vs) : Sem Value) := by
            unfold results
            congr 1
          rw [e0, Array.mapM_eq_mapM_toList]
          simp only [Sem.run_bind, Sem.run_map, r1, Result.andThen_ok, Sem.run_pure]
          congr 1
          unfold one
          cases vs with
          | nil => rfl
          | cons v vs => cases vs <;> rfl
        rcases he with rfl | rfl <;> exact ⟨hd, _, hres, _, rfl, k3, r2⟩
      refine vcC_sound (w0 := w) hm c (asg c) _ _ _ _ w _ _ _ ⟨?_, fun t v hv => ?_⟩ (Fr.refl _ _) (Sane.refl _) (fun t ht => ht) (ret .normal (.inl rfl)) (fun _ _ _ _ _ _ _ hf => hf.elim) (ret .ret (.inr rfl)) hh
      · simp; omega
      · obtain ⟨j, rfl, hj⟩ := lookG_arg hv
        have hlt : j < args.length := (List.getElem?_eq_some_iff.1 hj).1
        rw [Nat.zero_add, Array.getElem?_append_left (by simpa using hlt)]
        simpa using hj
end Go.Vc
