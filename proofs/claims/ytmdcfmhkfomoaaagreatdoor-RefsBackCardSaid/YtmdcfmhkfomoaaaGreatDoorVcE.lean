/-
  The symbolic run of a function's code is sound: what it asks suffices for a call. Conditions: none.
-/
import Derived.Test.YtmdcfmhkfomoaaaGreatDoorVcD
import Derived.Scope
import Derived.RangeFuncLeaves
import Derived.RangeFuncRecord
import Derived.RangeFuncSeq
set_option linter.unusedSimpArgs false
set_option linter.unusedVariables false
namespace Go.Vc
open Go

/- ------------------------------------------------------------------ typed relations over slots -/

def ScT : Sc → Type → Type
  | .int _, R => Int → R
  | .bool, R => Bool → R
  | .str, R => ByteArray → R
  | .ptr, R => Option Addr → R
  | .slice, R => Option Addr → Nat → Nat → R
  | .map, R => Option Nat → R
  | .raw, R => Value → R
def ScsT : List Sc → Type → Type
  | [], R => R
  | s :: l, R => ScT s (ScsT l R)
def S1T : S1 → Type → Type
  | .sc s, R => ScT s R
  | .agg l, R => ScsT l R
  | .big, R => Array Value → R
def FnT : List S1 → Type → Type
  | [], R => R
  | s :: l, R => S1T s (FnT l R)

def apSc {R : Type} : (s : Sc) → ScT s R → Value → Option R
  | .int k, f, .int k' n => match eqKind k k' with | true => some (f n) | false => none
  | .bool, f, .bool b => some (f b)
  | .str, f, .string s => some (f s)
  | .ptr, f, .pointer a => some (f a)
  | .slice, f, .slice a n c => some (f a n c)
  | .map, f, .map r => some (f r)
  | .raw, f, v => some (f v)
  | _, _, _ => none
def apScs {R : Type} : (l : List Sc) → ScsT l R → List Value → Option R
  | [], f, [] => some f
  | s :: l, f, v :: vs => match apSc s f v with | some f => apScs l f vs | none => none
  | _, _, _ => none
def apS1 {R : Type} : (s : S1) → S1T s R → Value → Option R
  | .sc s, f, v => apSc s f v
  | .agg l, f, .agg cs => apScs l f cs.toList
  | .big, f, .agg cs => some (f cs)
  | _, _, _ => none
def ap {R : Type} : (l : List S1) → FnT l R → List Value → Option R
  | [], f, [] => some f
  | s :: l, f, v :: vs => match apS1 s f v with | some f => ap l f vs | none => none
  | _, _, _ => none

def alSc : Sc → (Value → Prop) → Prop
  | .int k, K => ∀ n : Int, K (.int k n)
  | .bool, K => ∀ b : Bool, K (.bool b)
  | .str, K => ∀ s : ByteArray, K (.string s)
  | .ptr, K => ∀ a : Option Addr, K (.pointer a)
  | .slice, K => ∀ (a : Option Addr) (n c : Nat), K (.slice a n c)
  | .map, K => ∀ r : Option Nat, K (.map r)
  | .raw, K => ∀ v : Value, K v
def alScs : List Sc → (List Value → Prop) → Prop
  | [], K => K []
  | s :: l, K => alSc s fun v => alScs l fun vs => K (v :: vs)
def alS1 : S1 → (Value → Prop) → Prop
  | .sc s, K => alSc s K
  | .agg l, K => alScs l fun vs => K (.agg vs.toArray)
  | .big, K => ∀ cs : Array Value, K (.agg cs)
def al : List S1 → (List Value → Prop) → Prop
  | [], K => K []
  | s :: l, K => alS1 s fun v => al l fun vs => K (v :: vs)

theorem al_sc {R : Type} {s : Sc} {f : ScT s R} {v : Value} {r : R} {K : Value → Prop} (h : apSc s f v = some r) (hk : alSc s K) : K v := by
  cases s <;> cases v <;> simp only [apSc, reduceCtorEq] at h <;> simp only [alSc] at hk <;> try exact hk _
  case int.int k k' n =>
    cases he : eqKind k k' with
    | true => obtain rfl := eqKind_eq he; exact hk n
    | false => simp [he] at h
  case slice.slice a n c => exact hk a n c
theorem al_scs {R : Type} : ∀ {l : List Sc} {f : ScsT l R} {vs : List Value} {r : R} {K : List Value → Prop}, apScs l f vs = some r → alScs l K → K vs
  | [], f, [], r, K, _, hk => hk
  | [], f, _ :: _, r, K, h, _ => by simp [apScs] at h
  | s :: l, f, [], r, K, h, _ => by simp [apScs] at h
  | s :: l, f, v :: vs, r, K, h, hk => by
    simp only [apScs] at h
    cases hs : apSc s f v with
    | none => simp [hs] at h
    | some f' => simp only [hs] at h; exact al_scs (K := fun vs => K (v :: vs)) h (al_sc hs hk)
theorem al_s1 {R : Type} {s : S1} {f : S1T s R} {v : Value} {r : R} {K : Value → Prop} (h : apS1 s f v = some r) (hk : alS1 s K) : K v := by
  cases s with
  | sc s => exact al_sc h hk
  | agg l =>
    cases v <;> simp only [apS1, reduceCtorEq] at h
    case agg cs => exact al_scs (K := fun vs => K (.agg vs.toArray)) h hk
  | big =>
    cases v <;> simp only [apS1, reduceCtorEq] at h
    case agg cs => exact hk cs
theorem al_all {R : Type} : ∀ {l : List S1} {f : FnT l R} {vs : List Value} {r : R} {K : List Value → Prop}, ap l f vs = some r → al l K → K vs
  | [], f, [], r, K, _, hk => hk
  | [], f, _ :: _, r, K, h, _ => by simp [ap] at h
  | s :: l, f, [], r, K, h, _ => by simp [ap] at h
  | s :: l, f, v :: vs, r, K, h, hk => by
    simp only [ap] at h
    cases hs : apS1 s f v with
    | none => simp [hs] at h
    | some f' => simp only [hs] at h; exact al_all (K := fun vs => K (v :: vs)) h (al_s1 hs hk)

def hp (sh : List S1) (I : FnT sh (Heap → Prop)) (vs : Option (List Value)) (h : Heap) : Prop :=
  match vs with
  | none => False
  | some vs => match ap sh I vs with | some p => p h | none => False
def hn (sh : List S1) (m : FnT sh (Heap → Nat)) (vs : Option (List Value)) (h : Heap) : Nat :=
  match vs with
  | none => 0
  | some vs => match ap sh m vs with | some p => p h | none => 0

theorem hp_al {sh : List S1} {I : FnT sh (Heap → Prop)} {vs : List Value} {h : Heap} {K : List Value → Prop} (hh : hp sh I (some vs) h) (hk : al sh K) : K vs := by
  unfold hp at hh
  simp only at hh
  cases ha : ap sh I vs with
  | none => simp [ha] at hh
  | some p => exact al_all ha hk

/- ------------------------------------------------------------------ code -/

def dsts (ops : Array Oper) : List Nat := ops.toList.filterMap (·.dst)
def asg : Code → List Nat
  | .region _ ops _ => dsts ops
  | .seq a b => asg a ++ asg b
  | .cond _ a b => asg a ++ asg b
  | .block _ c => asg c
  | .loop c => asg c
  | .scope c => asg c
  | _ => []
def firstReg : Code → Option Nat
  | .region id _ _ => some id
  | .seq a b => match firstReg a with | some r => some r | none => firstReg b
  | .block _ c => firstReg c
  | .loop c => firstReg c
  | .scope c => firstReg c
  | _ => none
def isCut (cuts : List Nat) (b : Code) : Bool := match firstReg b with | some r => cuts.contains r | none => false

def scOfV : Value → Sc
  | .int k _ => .int k
  | .bool _ => .bool
  | .string _ => .str
  | .pointer _ => .ptr
  | .slice _ _ _ => .slice
  | .map _ => .map
  | _ => .raw
def s1OfV : Value → S1
  | .agg cs => .agg (cs.toList.map scOfV)
  | v => .sc (scOfV v)

def slots (base : Nat) (S : List Nat) (g : Env0) : List Nat := (List.range base).filter fun t => S.contains t && (lookG g t).isSome
def vals (g : Env0) : List Nat → Option (List Value)
  | [] => some []
  | t :: L => match lookG g t, vals g L with | some v, some vs => some (v :: vs) | _, _ => none
def shs (bigs : List Nat) (g : Env0) (L : List Nat) : List S1 := L.map fun t => match bigs.contains t with
  | true => .big
  | false => match lookG g t with | some v => s1OfV v | none => .sc .raw
def bindG : List Nat → List Value → Env0
  | t :: L, v :: vs => (t, v) :: bindG L vs
  | _, _ => []
def keepG (S : List Nat) : Env0 → Env0
  | [] => []
  | (t, v) :: g => match S.contains t with | true => keepG S g | false => (t, v) :: keepG S g

structure Cfg where
  n : Nat
  base : Nat
  cuts : List Nat := []
  bigs : List Nat := []

/-- holds a range over a function? -/
def hasRF : Code → Bool
  | .seq a b => hasRF a || hasRF b
  | .cond _ a b => hasRF a || hasRF b
  | .block _ c => hasRF c
  | .loop c => hasRF c
  | .scope c => hasRF c
  | .rangeFunc _ _ _ _ => true
  | _ => false
/-- only the machine's own blocks have turned; others may have come. -/
structure Turn (h h' : Heap) : Prop where
  size : h.size ≤ h'.size
  stay : ∀ (q : Nat) (o : Obj), h[q]? = some o → isMark o = false → h'[q]? = some o
theorem Turn.refl (h : Heap) : Turn h h := ⟨Nat.le_refl _, fun _ _ h _ => h⟩
theorem Turn.trans {a b c : Heap} (h : Turn a b) (k : Turn b c) : Turn a c := ⟨Nat.le_trans h.1 k.1, fun q o hq hm => k.2 q o (h.2 q o hq hm) hm⟩
/-- a step of an iterator's own: what was there stays. -/
structure Calm (w w' : World) : Prop where
  tape : w'.tape = w.tape
  os : w'.os = w.os
  output : w'.output = w.output
  size : w.heap.size ≤ w'.heap.size
  block : ∀ b, b < w.heap.size → w'.heap[b]? = w.heap[b]?
theorem Calm.sane {w w' : World} (h : Calm w w') : Sane w w' := ⟨h.tape, h.os, h.output, h.size, fun k o hk _ => by rw [h.block k (Array.getElem?_eq_some_iff.1 hk).1]; exact hk⟩
theorem Calm.turn {w w' : World} (h : Calm w w') : Turn w.heap w'.heap := ⟨h.size, fun k o hk _ => by rw [h.block k (Array.getElem?_eq_some_iff.1 hk).1]; exact hk⟩
theorem Calm.at {w w' : World} (h : Calm w w') {k : Nat} {o : Obj} (hk : w.heap[k]? = some o) : w'.heap[k]? = some o := by rw [h.block k (Array.getElem?_eq_some_iff.1 hk).1]; exact hk
/-- the k-th of a list. -/
structure Nth (xs : List (Option Addr × Nat × Nat)) (k : Nat) (x : Option Addr × Nat × Nat) : Prop where
  eq : xs[k]? = some x
/-- a function value hands on so many slices, one behind the other, as long as C holds of the heap. -/
structure Gives (P : Program) (v : Value) (C : Heap → Prop) (xs : List (Option Addr × Nat × Nat)) : Prop where
  run : ∃ gf lb, v = .func (.func gf) #[] lb ∧ (∀ args w, (callFunc gf args).run P w = .ok (.enter gf args) w) ∧
    ∀ (n l : Nat) (J : Nat → World → Prop) (Jx : World → Prop) (W : World),
      (∀ k W W', J k W → Calm W W' → J k W') → (∀ W W', Jx W → Calm W W' → Jx W') → (∀ k W, J k W → C W.heap) →
      (∀ k x W1, J k W1 → xs[k]? = some x → YieldAt (FW none) n P l #[.slice x.1 x.2.1 x.2.2] W1 fun e W' => (e = .returned (.bool true) ∧ J (k + 1) W') ∨ (e = .returned (.bool false) ∧ Jx W')) →
      J 0 W → Calls P gf (#[.func (.yield l) #[] #[]] ++ lb) W fun e W' => (∃ v, e = .returned v) ∧ (J xs.length W' ∨ Jx W')

def vcC (P : Program) (cf : Cfg) : Code → Env0 → Heap → (Env0 → Heap → Prop) → (Nat → Env0 → Heap → Prop) → (Env0 → Heap → Prop) → Prop
  | .skip, g, h, N, _, _ => N g h
  | .label _, g, h, N, _, _ => N g h
  | .region _ ops draw, g, h, N, _, _ => match !draw || lexB (clsOf P) .any ops with
    | true => vcOps P none [] cf.n ops g (Tr.ofList (List.range ops.size)) [] [] h fun l h => N (merge l g) h
    | false => match Region.noSelect ops && treeOk (clsS P (stS P ops)) .any ops (mkTr (clsS P (stS P ops)) .any ops ops.size (Array.replicate ops.size false)) false ops.size (Array.replicate ops.size false) with
      | false => False
      | true => match stS P ops with
        | [] => vcOps P none [] cf.n ops g (mkTr (clsS P []) .any ops ops.size (Array.replicate ops.size false)) [] [] h fun l h => N (merge l g) h
        | st => ∃ I : Heap → Prop, I h ∧ vcOps P (some I) st cf.n ops g (mkTr (clsS P st) .any ops ops.size (Array.replicate ops.size false)) [] [] h fun l h => N (merge l g) h
  | .seq a b, g, h, N, X, R => match isCut cf.cuts b with
    | false => vcC P cf a g h (fun g h => vcC P cf b g h N X R) X R
    | true => ∃ J : FnT (shs cf.bigs g (slots cf.base (asg a) g)) (Heap → Prop),
        vcC P cf a g h (fun g' h' => hp _ J (vals g' (slots cf.base (asg a) g)) h') X R ∧
        al (shs cf.bigs g (slots cf.base (asg a) g)) fun vs => ∀ h', hp _ J (some vs) h' →
          vcC P cf b (bindG (slots cf.base (asg a) g) vs ++ keepG (asg a) g) h' N X R
  | .cond c a b, g, h, N, X, R => match c with
    | .tmp t => match lookG g t with
      | some (.bool x) => br x (vcC P cf a ((t, .bool true) :: g) h N X R) (vcC P cf b ((t, .bool false) :: g) h N X R)
      | _ => False
    | .const (.bool x) => br x (vcC P cf a g h N X R) (vcC P cf b g h N X R)
    | _ => False
  | .block id c, g, h, N, X, R => vcC P cf c g h N (fun i g h => match Nat.beq i id with | true => N g h | false => X i g h) R
  | .loop c, g, h, _, X, R => ∃ (I : FnT (shs cf.bigs g (slots cf.base (asg c) g)) (Heap → Prop)) (m : FnT (shs cf.bigs g (slots cf.base (asg c) g)) (Heap → Nat)),
      hp _ I (vals g (slots cf.base (asg c) g)) h ∧
      al (shs cf.bigs g (slots cf.base (asg c) g)) fun vs => ∀ h', hp _ I (some vs) h' →
        vcC P cf c (bindG (slots cf.base (asg c) g) vs ++ keepG (asg c) g) h'
          (fun g2 h2 => hp _ I (vals g2 (slots cf.base (asg c) g)) h2 ∧ hn _ m (vals g2 (slots cf.base (asg c) g)) h2 < hn _ m (some vs) h') X R
  | .exit id, g, h, _, X, _ => X id g h
  | .scope c, g, h, N, X, R => vcC P cf c g h N X R
  | .ret, g, h, _, _, R => R g h
  | .rangeFunc f ps assign body, g, h, N, _, R => match !hasRF assign && !hasRF body, f, ps.toList with
    | true, .tmp t, [p] => match lookG g t, Nat.blt p cf.n with
      | some v, true => ∃ (xs : List (Option Addr × Nat × Nat)) (C : Heap → Prop) (I : Nat → Heap → Prop) (Ir : Heap → Prop), Gives P v C xs ∧ (∀ k h', I k h' → C h') ∧
          (∀ k h' h'', I k h' → Turn h' h'' → I k h'') ∧ (∀ h' h'', Ir h' → Turn h' h'' → Ir h'') ∧ I 0 h ∧
          (∀ (k : Nat) (a : Option Addr) (n c : Nat) (h' : Heap), Nth xs k (a, n, c) → I k h' →
            vcC P cf assign ((p, .slice a n c) :: g) h' (fun g1 h1 => ∀ h1', Turn h1 h1' → vcC P cf body g1 h1' (fun _ h2 => I (k + 1) h2) (fun _ _ _ => False) (fun _ h2 => Ir h2)) (fun _ _ _ => False) (fun _ _ => False)) ∧
          (∀ h', I xs.length h' → N g h') ∧ (∀ h', Ir h' → R g h')
      | _, _ => False
    | _, _, _ => False
  | _, _, _, _, _, _ => False

structure Inv0 (n : Nat) (g : Env0) (a : Act) : Prop where
  size : a.tmps.size = n
  look : ∀ t v, lookG g t = some v → a.tmps[t]? = some v

theorem lookG_del {t u : Nat} {v : Value} : ∀ {g : Env0}, lookG (delG t g) u = some v → u ≠ t ∧ lookG g u = some v
  | [], h => by simp [delG, lookG] at h
  | (s, x) :: g, h => by
    simp only [delG] at h
    cases hb : Nat.beq s t with
    | true =>
      simp only [hb] at h
      obtain ⟨h1, h2⟩ := lookG_del h
      refine ⟨h1, ?_⟩
      have := Nat.eq_of_beq_eq_true hb
      subst this
      simp only [lookG]
      cases hb' : Nat.beq s u with
      | true => exact absurd (Nat.eq_of_beq_eq_true hb').symm h1
      | false => exact h2
    | false =>
      simp only [hb, lookG] at h
      simp only [lookG]
      cases hb' : Nat.beq s u with
      | true =>
        simp only [hb'] at h
        exact ⟨fun e => (by subst e; rw [hb] at hb'; cases hb'), h⟩
      | false =>
        simp only [hb'] at h
        exact lookG_del h

theorem lookG_merge {t : Nat} {v : Value} : ∀ {l : Env} {g : Env0}, lookG (merge l g) t = some v → (t, [], v) ∈ l ∨ (lookG g t = some v ∧ lookL l t = none)
  | [], g, h => .inr ⟨h, rfl⟩
  | (s, [], x) :: l, g, h => by
    simp only [merge, lookG] at h
    cases hb : Nat.beq s t with
    | true =>
      simp only [hb, Option.some.injEq] at h
      subst h
      rw [Nat.eq_of_beq_eq_true hb]
      exact .inl List.mem_cons_self
    | false =>
      simp only [hb] at h
      rcases lookG_merge h with h1 | ⟨h1, h2⟩
      · exact .inl (List.mem_cons_of_mem _ h1)
      · exact .inr ⟨h1, by simp only [lookL, hb]; exact h2⟩
  | (s, x :: p, y) :: l, g, h => by
    simp only [merge] at h
    obtain ⟨h1, h⟩ := lookG_del h
    rcases lookG_merge h with h2 | ⟨h2, h3⟩
    · exact .inl (List.mem_cons_of_mem _ h2)
    · refine .inr ⟨h2, ?_⟩
      simp only [lookL]
      cases hb : Nat.beq s t with
      | true => exact absurd (Nat.eq_of_beq_eq_true hb).symm h1
      | false => exact h3

theorem Inv.merge {n : Nat} {l : Env} {g : Env0} {D : List Path} {a : Act} (hi : Inv n l g D a) : Inv0 n (merge l g) a :=
  ⟨hi.size, fun t v h => by
    rcases lookG_merge h with h | ⟨h1, h2⟩
    · exact (hi.agL _ _ _ h).1 rfl
    · exact hi.agG t v h1 h2⟩

theorem Inv0.toInv {n : Nat} {g : Env0} {a : Act} (hi : Inv0 n g a) : Inv n [] g [] a :=
  ⟨hi.size, fun _ _ _ h => (by cases h), fun t v h _ => hi.look t v h, fun _ _ _ h => (by cases h), fun _ h => (by cases h), fun _ h => (by cases h)⟩

theorem lookG_append {t : Nat} {v : Value} : ∀ {g g' : Env0}, lookG (g ++ g') t = some v → lookG g t = some v ∨ lookG g' t = some v
  | [], _, h => .inr h
  | (s, x) :: g, g', h => by
    simp only [List.cons_append, lookG] at h ⊢
    cases hb : Nat.beq s t with
    | true => simp only [hb] at h; exact .inl h
    | false => simp only [hb] at h; exact lookG_append h
theorem lookG_bind {f : Nat → Value} {t : Nat} {v : Value} : ∀ {L : List Nat}, lookG (bindG L (L.map f)) t = some v → t ∈ L ∧ v = f t
  | [], h => by simp [bindG, lookG] at h
  | s :: L, h => by
    simp only [List.map_cons, bindG, lookG] at h
    cases hb : Nat.beq s t with
    | true =>
      simp only [hb, Option.some.injEq] at h
      rw [Nat.eq_of_beq_eq_true hb] at h ⊢
      exact ⟨List.mem_cons_self, h.symm⟩
    | false =>
      simp only [hb] at h
      exact ⟨List.mem_cons_of_mem _ (lookG_bind h).1, (lookG_bind h).2⟩
theorem lookG_keep {S : List Nat} {t : Nat} {v : Value} : ∀ {g : Env0}, lookG (keepG S g) t = some v → t ∉ S ∧ lookG g t = some v
  | [], h => by simp [keepG, lookG] at h
  | (s, x) :: g, h => by
    simp only [keepG] at h
    cases hS : S.contains s with
    | true =>
      simp only [hS] at h
      obtain ⟨h1, h2⟩ := lookG_keep h
      refine ⟨h1, ?_⟩
      simp only [lookG]
      cases hb : Nat.beq s t with
      | true =>
        rw [Nat.eq_of_beq_eq_true hb] at hS
        exact absurd (by simpa using hS) h1
      | false => exact h2
    | false =>
      simp only [hS, lookG] at h
      simp only [lookG]
      cases hb : Nat.beq s t with
      | true =>
        simp only [hb] at h
        rw [Nat.eq_of_beq_eq_true hb] at hS
        exact ⟨by simpa using hS, h⟩
      | false => simp only [hb] at h; exact lookG_keep h

def actVal (a : Act) (t : Nat) : Value := a.tmps.getD t undef
theorem vals_act {n : Nat} {g : Env0} {a : Act} (hi : Inv0 n g a) : ∀ {L : List Nat} {vs : List Value}, vals g L = some vs → vs = L.map (actVal a)
  | [], vs, h => by simp [vals] at h; exact h
  | t :: L, vs, h => by
    simp only [vals] at h
    cases hl : lookG g t with
    | none => simp [hl] at h
    | some v =>
      cases hv : vals g L with
      | none => simp [hl, hv] at h
      | some vs' =>
        simp only [hl, hv, Option.some.injEq] at h
        subst h
        rw [List.map_cons, ← vals_act hi hv]
        have := hi.look t v hl
        simp [actVal, this]

theorem hp_vals {n : Nat} {g : Env0} {a : Act} {sh : List S1} {I : FnT sh (Heap → Prop)} {L : List Nat} {h : Heap} (hi : Inv0 n g a) (hh : hp sh I (vals g L) h) :
    hp sh I (some (L.map (actVal a))) h := by
  cases hv : vals g L with
  | none => rw [hv] at hh; exact hh.elim
  | some vs => rw [hv, vals_act hi hv] at hh; exact hh
theorem hn_vals {n : Nat} {g : Env0} {a : Act} {sh : List S1} {m : FnT sh (Heap → Nat)} {I : FnT sh (Heap → Prop)} {L : List Nat} {h : Heap} (hi : Inv0 n g a) (hh : hp sh I (vals g L) h) :
    hn sh m (vals g L) h = hn sh m (some (L.map (actVal a))) h := by
  cases hv : vals g L with
  | none => rw [hv] at hh; exact hh.elim
  | some vs => rw [vals_act hi hv]

theorem slots_in {n base : Nat} {S : List Nat} {g : Env0} {a : Act} (hi : Inv0 n g a) {t : Nat} (h : t ∈ slots base S g) : t ∈ S ∧ t < n := by
  unfold slots at h
  rw [List.mem_filter] at h
  simp only [Bool.and_eq_true] at h
  refine ⟨by simpa using h.2.1, ?_⟩
  obtain ⟨v, hv⟩ := Option.isSome_iff_exists.1 h.2.2
  have := hi.look t v hv
  rw [← hi.size]
  exact (Array.getElem?_eq_some_iff.1 this).1

/-- outside S the frame is as it was. -/
def FrT (S : List Nat) (a0 a : Act) : Prop := ∀ t, t ∉ S → a.tmps[t]? = a0.tmps[t]?
theorem FrT.refl (S : List Nat) (a : Act) : FrT S a a := fun _ _ => rfl
theorem FrT.trans {S : List Nat} {a b c : Act} (h : FrT S a b) (k : FrT S b c) : FrT S a c := fun t ht => (k t ht).trans (h t ht)
theorem FrT.mono {S T : List Nat} {a b : Act} (h : FrT S a b) (hs : ∀ t ∈ S, t ∈ T) : FrT T a b := fun t ht => h t fun hS => ht (hs t hS)
def markOf (D : Nat) : Deferred := { target := .collected D, args := #[] }
/-- since w0 all is sane; what is put off is marks of loops, each with a list of no calls. -/
structure Snd (rf : Bool) (w0 : World) (a : Act) (w : World) : Prop where
  sane : Sane w0 w
  none : rf = false → a.defers = []
  marks : ∃ Ds : List Nat, a.defers = Ds.map markOf ∧ Ds.Nodup ∧ ∀ D ∈ Ds, w0.heap.size ≤ D ∧ w.heap[D]? = some (.deferred (some []))
theorem Snd.step {rf : Bool} {w0 w w' : World} {a a' : Act} (h : Snd rf w0 a w) (k : Sane w w') (hd : a'.defers = a.defers) : Snd rf w0 a' w' := by
  obtain ⟨Ds, h1, h2, h3⟩ := h.marks
  exact ⟨h.sane.trans k, fun e => hd.trans (h.none e), Ds, hd.trans h1, h2, fun D hD => ⟨(h3 D hD).1, k.marks D _ (h3 D hD).2 rfl⟩⟩
theorem Inv0.bind {n : Nat} {g : Env0} {a0 a : Act} {S : List Nat} {L : List Nat} (hi : Inv0 n g a0) (hL : ∀ t ∈ L, t < n) (hf : FrT S a0 a) (hs : a.tmps.size = n) :
    Inv0 n (bindG L (L.map (actVal a)) ++ keepG S g) a := by
  refine ⟨hs, fun t v h => ?_⟩
  rcases lookG_append h with h | h
  · obtain ⟨h1, rfl⟩ := lookG_bind h
    have : t < a.tmps.size := by rw [hs]; exact hL t h1
    simp [actVal, this]
  · obtain ⟨h1, h2⟩ := lookG_keep h
    rw [hf t h1]; exact hi.look t v h2

theorem stepR_scope {P : Program} {b : Frame} {a : Act} {k : List Item} {cs : List Frame} {w : World} {c : Code} : step P (lone (b.atR a (.code (.scope c) :: k)) cs w) = .next (lone (b.atR a (.code c :: .inScope c :: k)) cs w) :=
  step_lone_go (by simp [stepG, stepG.exec, Frame.atR])
theorem stepR_inScope {P : Program} {b : Frame} {a : Act} {k : List Item} {cs : List Frame} {w : World} {c : Code} : step P (lone (b.atR a (.inScope c :: k)) cs w) = .next (lone (b.atR a k) cs w) :=
  step_lone_go (by simp [stepG, stepG.exec, Frame.atR])
theorem wpIn_scope_straight {F : Fence} {n : Nat} {P : Program} {Q : Exit → Act → World → Prop} {a : Act} {w : World} {c : Code} (h : c.wpIn F n P (Exit.noGoto Q) a w) : (Code.scope c).wpIn F n P Q a w := by
  intro b k cs hro hb hr
  have h0 : (lone (b.atR a (.code (.scope c) :: k)) cs w).fenced P F := fenced_calm hb hr rfl
  obtain ⟨e, a₁, w₁, hq, harr⟩ := h b (.inScope c :: k) cs hro hb hr
  cases e with
  | normal => exact ⟨.normal, a₁, w₁, hq, .head h0 stepR_scope (StepsIn.trans harr (.one (fenced_calm hb hr rfl) stepR_inScope))⟩
  | exit id =>
    have hx : exitTo id (.inScope c :: k) = exitTo id k := by simp [exitTo]
    exact ⟨.exit id, a₁, w₁, hq, fun k' hk => .head h0 stepR_scope (harr.1 k' (by rw [hx]; exact hk)), fun hr' hk => let ⟨k₁, h1, h2⟩ := harr.2 hr' (by rw [hx]; exact hk); ⟨k₁, h1, .head h0 stepR_scope h2⟩⟩
  | goto l => exact hq.elim
  | ret => exact ⟨_, a₁, w₁, hq, .of_steps (.one h0 stepR_scope) harr⟩
  | panic ch => exact ⟨_, a₁, w₁, hq, .of_steps (.one h0 stepR_scope) harr⟩
  | outgrown => exact ⟨_, a₁, w₁, hq, .of_steps (.one h0 stepR_scope) harr⟩
theorem Sane.putMark {w w' : World} {l : Nat} {o : Obj} (h : Sane w w') (hl : w.heap.size ≤ l) : Sane w (w'.putObj l o) :=
  ⟨h.tape, h.os, h.output, by show _ ≤ (w'.heap.setIfInBounds l o).size; rw [Array.size_setIfInBounds]; exact h.size, fun k o' hk hm => by
    have hlt : k < w.heap.size := (Array.getElem?_eq_some_iff.1 hk).1
    show (w'.heap.setIfInBounds l o)[k]? = _
    rw [Array.getElem?_setIfInBounds_ne (by omega)]; exact h.marks k o' hk hm⟩
theorem Turn.putMark {w : World} {l : Nat} {r o : Obj} (hl : w.heap[l]? = some r) (hm : isMark r = true) : Turn w.heap (w.putObj l o).heap :=
  ⟨by show _ ≤ (w.heap.setIfInBounds l o).size; rw [Array.size_setIfInBounds]; exact Nat.le_refl _, fun q o' hq hm' => by
    by_cases h : l = q
    · subst h; rw [hl] at hq; cases hq; rw [hm] at hm'; cases hm'
    · show (w.heap.setIfInBounds l o)[q]? = _
      rw [Array.getElem?_setIfInBounds_ne h]; exact hq⟩
/-- A RANGE OVER A FUNCTION. -/
theorem rf_case {P : Program} {f : Operand} {ps : Array Tmp} {x y : Code} {p gf : Nat} {lb : Array Value} {xs : List (Option Addr × Nat × Nat)} {C : Heap → Prop} {I : Nat → Heap → Prop} {Ir : Heap → Prop} {a : Act} {w0 w : World} {n : Nat}
    {Q : Exit → Act → World → Prop} (hev : a.eval f = .func (.func gf) #[] lb) (hps : ps = #[p]) (eg : ∀ args w, (callFunc gf args).run P w = .ok (.enter gf args) w)
    (hgv : ∀ (n l : Nat) (J : Nat → World → Prop) (Jx : World → Prop) (W : World),
      (∀ k W W', J k W → Calm W W' → J k W') → (∀ W W', Jx W → Calm W W' → Jx W') → (∀ k W, J k W → C W.heap) →
      (∀ k x W1, J k W1 → xs[k]? = some x → YieldAt (FW none) n P l #[.slice x.1 x.2.1 x.2.2] W1 fun e W' => (e = .returned (.bool true) ∧ J (k + 1) W') ∨ (e = .returned (.bool false) ∧ Jx W')) →
      J 0 W → Calls P gf (#[.func (.yield l) #[] #[]] ++ lb) W fun e W' => (∃ v, e = .returned v) ∧ (J xs.length W' ∨ Jx W'))
    (hs : Snd true w0 a w) (hIC : ∀ k h', I k h' → C h') (hIt : ∀ k h' h'', I k h' → Turn h' h'' → I k h'') (hIrt : ∀ h' h'', Ir h' → Turn h' h'' → Ir h'') (h0 : I 0 w.heap)
    (hround : ∀ (l n1 k : Nat) (ad : Option Addr) (ln cp : Nat) (W : World), xs[k]? = some (ad, ln, cp) → I k W.heap →
      x.wpIn (FW (some l)) n1 P (Exit.then (fun a1 W1 => Sane W W1 ∧ ∀ W2, Turn W1.heap W2.heap → y.wpIn (FW (some l)) n1 P (fun e a' W' => Sane W2 W' ∧ ((e = .normal ∧ I (k + 1) W'.heap) ∨ (e = .ret ∧ Ir W'.heap))) a1 W2) (fun _ _ _ => False))
        { tmps := a.tmps.setIfInBounds p (.slice ad ln cp), defers := [] } W)
    (hN : ∀ a' w', a'.tmps = a.tmps → Snd true w0 a' w' → I xs.length w'.heap → Q .normal a' w')
    (hR : ∀ a' w', a'.tmps = a.tmps → Snd true w0 a' w' → Ir w'.heap → Q .ret a' w') : (Code.rangeFunc f ps x y).wpIn (FW none) n P Q a w := by
  subst hps
  refine wpIn_rangeFunc ?_
  intro fn hfn
  obtain ⟨rec, hrec⟩ : ∃ rec : LoopState → Option Code → Loop, rec = fun st pe => { state := st, pending := pe, fn, tmps := a.tmps, params := #[p], assign := x, body := y, defers := w.heap.size } := ⟨_, rfl⟩
  obtain ⟨W1, hW1⟩ : ∃ W1, (w.alloc (.deferred (some []))).alloc (.loop (rec .ready none)) = W1 := ⟨_, rfl⟩
  have s1 : Sane w W1 := by
    rw [← hW1]
    exact (Sane.push (w := w) (w' := w.alloc (.deferred (some []))) (o := .deferred (some [])) rfl).trans (Sane.push (o := .loop (rec .ready none)) rfl)
  have hL1 : W1.heap[w.heap.size + 1]? = some (.loop (rec .ready none)) := by
    rw [← hW1]
    show ((w.heap.push _).push _)[w.heap.size + 1]? = _
    rw [Array.getElem?_push, if_pos (by simp)]
  have hK1 : W1.heap[w.heap.size]? = some (.deferred (some [])) := by
    rw [← hW1]
    show ((w.heap.push _).push _)[w.heap.size]? = _
    rw [Array.getElem?_push, if_neg (by simp), Array.getElem?_push, if_pos rfl]
  have t1 : Turn w.heap W1.heap := by
    rw [← hW1]
    refine ⟨by show _ ≤ ((w.heap.push _).push _).size; simp; omega, fun q o hq _ => ?_⟩
    have hlt : q < w.heap.size := (Array.getElem?_eq_some_iff.1 hq).1
    show ((w.heap.push _).push _)[q]? = _
    rw [Array.getElem?_push, if_neg (by simp; omega), Array.getElem?_push, if_neg (by omega)]; exact hq
  refine ⟨w.heap.size + 1, [{ target := .collected w.heap.size, args := #[] }], W1, { target := .fn (.func gf) lb, args := #[.func (.yield (w.heap.size + 1)) #[] #[]] }, W1, gf,
    #[.func (.yield (w.heap.size + 1)) #[] #[]] ++ lb, W1, ?_, ?_, fun _ _ => trivial, ?_, fun h => by simp [Fence.wide] at h, ?_⟩
  · rw [← hW1, hrec]; exact run_enterLoop_outer _ _ _ _ _
  · simp only [resolve, rangeCall, hev]
    simp [go_sem]
  · simp [invoke, go_sem, eg]
  refine callsIn_FW ?_
  refine (hgv (n - 1 - 1) (w.heap.size + 1)
    (fun k W => Sane w W ∧ I k W.heap ∧ W.heap[w.heap.size + 1]? = some (.loop (rec .ready none)) ∧ W.heap[w.heap.size]? = some (.deferred (some [])))
    (fun W => Sane w W ∧ Ir W.heap ∧ W.heap[w.heap.size + 1]? = some (.loop (rec .done (some .ret))) ∧ W.heap[w.heap.size]? = some (.deferred (some []))) W1
    (fun k W W' hj hc => ⟨hj.1.trans hc.sane, hIt k _ _ hj.2.1 hc.turn, hc.at hj.2.2.1, hc.at hj.2.2.2⟩)
    (fun W W' hj hc => ⟨hj.1.trans hc.sane, hIrt _ _ hj.2.1 hc.turn, hc.at hj.2.2.1, hc.at hj.2.2.2⟩)
    (fun k W hj => hIC k _ hj.2.1) ?_ ⟨s1, hIt 0 _ _ h0 t1, hL1, hK1⟩).mono ?_
  · rintro k ⟨ad, ln, cp⟩ W ⟨hsw, hi, hl, hk⟩ hx
    have hy := run_yield (P := P) (args := #[.slice ad ln cp]) hl (by rw [hrec]; rfl)
    have hfn' : (rec .ready none).fn = fn := by rw [hrec]
    have hfx : (rec .ready none).assign = x := by rw [hrec]
    have hfy : (rec .ready none).body = y := by rw [hrec]
    have hft : (((rec .ready none).params.zip #[Value.slice ad ln cp]).foldl (fun tmps (t, a) => tmps.setIfInBounds t a) (rec .ready none).tmps) = a.tmps.setIfInBounds p (.slice ad ln cp) := by rw [hrec]; simp
    rw [hfn', hfx, hfy, hft] at hy
    refine ⟨fn, _, x, y, hy, roundIn_of_wpIn hfn (wpIn_mono (hround (w.heap.size + 1) _ k ad ln cp W hx hi) ?_)⟩
    rintro e a1 W2 hq
    cases e with
    | normal =>
      obtain ⟨s2, hb⟩ := hq
      have hl2 := s2.marks _ _ hl rfl
      have hk2 := s2.marks _ _ hk rfl
      have hlt2 : w.heap.size + 1 < W2.heap.size := (Array.getElem?_eq_some_iff.1 hl2).1
      refine ⟨_, run_beginRound hl2 (by rw [hrec]), wpIn_mono (hb _ (Turn.putMark hl2 rfl)) ?_⟩
      have hl3 : (W2.putObj (w.heap.size + 1) (.loop { rec .ready none with state := .busy })).heap[w.heap.size + 1]? = some (.loop { rec .ready none with state := .busy }) := World.putObj_heap_same hlt2
      have hk3 : (W2.putObj (w.heap.size + 1) (.loop { rec .ready none with state := .busy })).heap[w.heap.size]? = some (.deferred (some [])) := (World.putObj_heap_other (by omega)).trans hk2
      have s3 : Sane w (W2.putObj (w.heap.size + 1) (.loop { rec .ready none with state := .busy })) := (hsw.trans s2).putMark (by omega)
      generalize W2.putObj (w.heap.size + 1) (.loop { rec .ready none with state := .busy }) = W3 at hl3 hk3 s3
      rintro e a' W4 ⟨s4, hq⟩
      have hl4 := s4.marks _ _ hl3 rfl
      have hk4 := s4.marks _ _ hk3 rfl
      have hlt4 : w.heap.size + 1 < W4.heap.size := (Array.getElem?_eq_some_iff.1 hl4).1
      rcases hq with ⟨rfl, hi4⟩ | ⟨rfl, hi4⟩
      · refine ⟨_, _, run_endRound none hl4, .inl ⟨rfl, (s3.trans s4).putMark (by omega), hIt _ _ _ hi4 (Turn.putMark hl4 rfl), ?_, (World.putObj_heap_other (by omega)).trans hk4⟩⟩
        rw [World.putObj_heap_same hlt4, hrec]; rfl
      · refine ⟨_, _, run_endRound (some .ret) hl4, .inr ⟨rfl, (s3.trans s4).putMark (by omega), hIrt _ _ hi4 (Turn.putMark hl4 rfl), ?_, (World.putObj_heap_other (by omega)).trans hk4⟩⟩
        rw [World.putObj_heap_same hlt4, hrec]; rfl
    | _ => exact hq.elim
  · have mk : ∀ {W2 : World} {o : Obj}, Sane w W2 → W2.heap[w.heap.size]? = some (.deferred (some [])) →
        Snd true w0 { a with defers := [{ target := .collected w.heap.size, args := #[] }] ++ a.defers } (W2.putObj (w.heap.size + 1) o) := fun {W2 o} h2 hk => by
      obtain ⟨Ds, d1, d2, d3⟩ := hs.marks
      have h3 : Sane w (W2.putObj (w.heap.size + 1) o) := h2.putMark (by omega)
      refine ⟨hs.sane.trans h3, fun e => (by cases e), w.heap.size :: Ds, ?_, List.nodup_cons.2 ⟨fun hm => ?_, d2⟩, fun D hD => ?_⟩
      · show [_] ++ a.defers = _; rw [d1]; rfl
      · have := (Array.getElem?_eq_some_iff.1 (d3 _ hm).2).1; omega
      · rcases List.mem_cons.1 hD with rfl | hD
        · exact ⟨hs.sane.size, (World.putObj_heap_other (by omega)).trans hk⟩
        · exact ⟨(d3 D hD).1, h3.marks D _ (d3 D hD).2 rfl⟩
    rintro e W2 ⟨⟨v, rfl⟩, (⟨hsw, hi, hl, hk⟩ | ⟨hsw, hi, hl, hk⟩)⟩
    · have hr := run_endLoop (P := P) hl (by rw [hrec]; simp)
      refine ⟨_, _, hr, ?_⟩
      have hp : (rec .ready none).pending = none := by rw [hrec]
      rw [hp]
      exact hN _ _ rfl (mk hsw hk) (hIt _ _ _ hi (Turn.putMark hl rfl))
    · have hr := run_endLoop (P := P) hl (by rw [hrec]; simp)
      refine ⟨_, _, hr, ?_⟩
      have hp : (rec .done (some .ret)).pending = some .ret := by rw [hrec]
      rw [hp]
      exact wpIn_ret (hR _ _ rfl (mk hsw hk) (hIrt _ _ hi (Turn.putMark hl rfl)))

theorem vcC_sound {P : Program} {cf : Cfg} (hm : P.follows .mixedOrders = true) :
    ∀ (c : Code) (ro : Option Nat) (n : Nat) (rf : Bool) (w0 : World) (S : List Nat) (a0 : Act) (Q : Exit → Act → World → Prop) (g : Env0) (a : Act) (w : World) (N : Env0 → Heap → Prop) (X : Nat → Env0 → Heap → Prop) (R : Env0 → Heap → Prop),
      (hasRF c = true → ro = none ∧ rf = true) →
      Inv0 cf.n g a → FrT S a0 a → Snd rf w0 a w → (∀ t ∈ asg c, t ∈ S) →
      (∀ g a w, Inv0 cf.n g a → FrT S a0 a → Snd rf w0 a w → N g w.heap → Q .normal a w) →
      (∀ i g a w, Inv0 cf.n g a → FrT S a0 a → Snd rf w0 a w → X i g w.heap → Q (.exit i) a w) →
      (∀ g a w, Inv0 cf.n g a → FrT S a0 a → Snd rf w0 a w → R g w.heap → Q .ret a w) →
      vcC P cf c g w.heap N X R → c.wpIn (FW ro) n P Q a w := by
  intro c
  induction c with
  | skip => exact fun ro n rf w0 S a0 Q g a w N X R _ hi hf hs _ hN _ _ h => wpIn_skip (hN g a w hi hf hs h)
  | label l => exact fun ro n rf w0 S a0 Q g a w N X R _ hi hf hs _ hN _ _ h => wpIn_label (hN g a w hi hf hs h)
  | exit id => exact fun ro n rf w0 S a0 Q g a w N X R _ hi hf hs _ _ hX _ h => wpIn_exit (hX id g a w hi hf hs h)
  | ret => exact fun ro n rf w0 S a0 Q g a w N X R _ hi hf hs _ _ _ hR h => wpIn_ret (hR g a w hi hf hs h)
  | goto l => intro ro n rf w0 S a0 Q g a w N X R _ _ _ _ _ _ _ _ h; exact h.elim
  | refuse l => intro ro n rf w0 S a0 Q g a w N X R _ _ _ _ _ _ _ _ h; exact h.elim
  | rangeFunc f ps x y ihx ihy =>
    intro ro n rf w0 S a0 Q g a w N X R hro hi hf hs hS hN hX hR h
    obtain ⟨rfl, hrf⟩ := hro rfl
    simp only [vcC] at h
    cases hno : !hasRF x && !hasRF y with
    | false => simp [hno] at h
    | true =>
      simp only [hno] at h
      have hnx : hasRF x = false := by cases hx : hasRF x <;> simp [hx] at hno ⊢
      have hny : hasRF y = false := by cases hy : hasRF y <;> simp [hy] at hno ⊢
      cases f with
      | tmp t =>
        cases hps : ps.toList with
        | nil => simp [hps] at h
        | cons p tl =>
          cases tl with
          | cons p2 tl => simp [hps] at h
          | nil =>
            simp only [hps] at h
            cases hl : lookG g t with
            | none => simp [hl] at h
            | some v =>
              cases hpn : Nat.blt p cf.n with
              | false => simp [hl, hpn] at h
              | true =>
                simp only [hl, hpn] at h
                obtain ⟨xs, C, I, Ir, ⟨gf, lb, rfl, eg, hgv⟩, hIC, hIt, hIrt, h0, hbody, hdone, hret⟩ := h
                subst hrf
                refine rf_case (by have := hi.look t _ hl; simp [Act.eval, this]) (Array.toList_inj.1 (by rw [hps])) eg hgv hs hIC hIt hIrt h0 (fun l n1 k ad ln cp W hxk hik => ?_)
                  (fun a' w' ht hs' hh => hN g a' w' ⟨by rw [ht]; exact hi.size, fun s v hv => by rw [ht]; exact hi.look s v hv⟩ (hf.trans fun s _ => by rw [ht]) hs' (hdone _ hh))
                  (fun a' w' ht hs' hh => hR g a' w' ⟨by rw [ht]; exact hi.size, fun s v hv => by rw [ht]; exact hi.look s v hv⟩ (hf.trans fun s _ => by rw [ht]) hs' (hret _ hh))
                have hpl : p < a.tmps.size := by
                  have h1 : p.succ ≤ cf.n := Nat.le_of_ble_eq_true hpn
                  exact Nat.lt_of_lt_of_eq (Nat.lt_of_succ_le h1) hi.size.symm
                have hi' : Inv0 cf.n ((p, .slice ad ln cp) :: g) { tmps := a.tmps.setIfInBounds p (.slice ad ln cp), defers := [] } := ⟨by simp [hi.size], fun s v hv => by
                  simp only [lookG] at hv
                  cases hb : Nat.beq p s with
                  | true =>
                    simp only [hb, Option.some.injEq] at hv
                    subst hv
                    rw [← Nat.eq_of_beq_eq_true hb]; simp [hpl]
                  | false =>
                    simp only [hb] at hv
                    have := Nat.ne_of_beq_eq_false hb
                    show (a.tmps.setIfInBounds p _)[s]? = _
                    rw [Array.getElem?_setIfInBounds_ne this]; exact hi.look s v hv⟩
                refine ihx (some l) n1 false W (asg x) _ _ _ _ W _ _ _ (fun e => by rw [hnx] at e; cases e) hi' (FrT.refl _ _) ⟨Sane.refl _, fun _ => rfl, [], rfl, List.nodup_nil, fun _ h => by cases h⟩ (fun t ht => ht) ?_ (fun _ _ _ _ _ _ _ hh => hh.elim) (fun _ _ _ _ _ _ hh => hh.elim) (hbody k ad ln cp W.heap ⟨hxk⟩ hik)
                intro g1 a1 W1 hi1 _ hs1 hb1
                refine ⟨hs1.sane, fun W2 ht => ?_⟩
                exact ihy (some l) n1 false W2 (asg y) a1 _ g1 a1 W2 _ _ _ (fun e => by rw [hny] at e; cases e) hi1 (FrT.refl _ _) ⟨Sane.refl _, fun _ => hs1.none rfl, [], by rw [hs1.none rfl]; rfl, List.nodup_nil, fun _ h => by cases h⟩ (fun t ht => ht)
                  (fun g' a' W' _ _ hs' hh => ⟨hs'.sane, .inl ⟨rfl, hh⟩⟩) (fun _ _ _ _ _ _ _ hh => hh.elim) (fun g' a' W' _ _ hs' hh => ⟨hs'.sane, .inr ⟨rfl, hh⟩⟩) (hb1 _ ht)
      | _ => simp at h
  | region id ops draw =>
    intro ro n rf w0 S a0 Q g a w N X R hro hi hf hs hS hN _ _ h
    simp only [vcC] at h
    have fin : ∀ a' w', Sane w w' → (∃ g', Inv0 cf.n g' a' ∧ Fr S a a' ∧ N g' w'.heap) → Q .normal a' w' := fun a' w' hs' ⟨g', h1, h2, h3⟩ => hN g' a' w' h1 (hf.trans h2.1) (hs.step hs' h2.2) h3
    have sound : ∀ (iv : Option (Heap → Prop)) (st : List Nat) (t : Tr), vcOps P iv st cf.n ops g t [] [] w.heap (fun l h => N (merge l g) h) →
        vTree P (ivP iv st ops) (clsS P st) ops (fun a' h => ∃ g', Inv0 cf.n g' a' ∧ Fr S a a' ∧ N g' h) t a w.heap := fun iv st t h =>
      vcOps_sound (P := P) (n := cf.n) (ops := ops) (g := g) (S := S) (a0 := a) (Q := fun a' h => ∃ g', Inv0 cf.n g' a' ∧ Fr S a a' ∧ N g' h)
        (fun o ho d hd => hS d (List.mem_filterMap.2 ⟨o, ho, hd⟩))
        (fun l D a h hi hf hk => ⟨_, hi.merge, hf, hk⟩) t [] [] a w.heap hi.toInv (Fr.refl _ _) h
    have c0 : clsS P [] = clsOf P := by
      funext o
      have : isSt [] o = false := by unfold isSt; split <;> rfl
      unfold clsS
      rw [this]
      cases clsOf P o <;> rfl
    cases hd : !draw || lexB (clsOf P) .any ops with
    | false =>
      simp only [hd] at h
      cases draw with
      | false => simp at hd
      | true =>
        cases ht : Region.noSelect ops && treeOk (clsS P (stS P ops)) .any ops (mkTr (clsS P (stS P ops)) .any ops ops.size (Array.replicate ops.size false)) false ops.size (Array.replicate ops.size false) with
        | false => simp [ht] at h
        | true =>
          simp only [ht] at h
          rw [Bool.and_eq_true] at ht
          cases hst : stS P ops with
          | nil =>
            rw [hst] at ht h
            simp only at h
            exact wp_region_tree (J := J0) (cl := clsS P []) car0 hm ht.1 ht.2 fin trivial (sound none [] _ h)
          | cons d ds =>
            rw [hst] at ht h
            simp only at h
            obtain ⟨I, hI, h⟩ := h
            exact wp_region_tree (J := ivP (some I) (d :: ds) ops) (cl := clsS P (d :: ds)) car_ivP hm ht.1 ht.2 fin (fun _ => hI) (sound (some I) (d :: ds) _ h)
    | true =>
      simp only [hd] at h
      have hops := vList_of_tree _ _ _ (sound none [] _ h)
      rw [c0] at hops
      cases draw with
      | false => exact wp_region_seq (cl := clsOf P) fin hops
      | true => exact wp_region_lex (cl := clsOf P) hm (by simpa using hd) fin hops
  | scope c ih =>
    intro ro n rf w0 S a0 Q g a w N X R hro hi hf hs hS hN hX hR h
    exact wpIn_scope_straight (ih ro n rf w0 S a0 _ g a w N X R hro hi hf hs hS hN hX hR h)
  | block id c ih =>
    intro ro n rf w0 S a0 Q g a w N X R hro hi hf hs hS hN hX hR h
    refine wpIn_block (ih ro n rf w0 S a0 _ g a w N _ R hro hi hf hs hS hN (fun i g a w h1 h2 h3 h4 => ?_) hR h)
    show Exit.inBlock id Q (.exit i) a w
    simp only [Exit.inBlock]
    cases hb : Nat.beq i id with
    | true =>
      simp only [hb] at h4
      rw [if_pos (Nat.eq_of_beq_eq_true hb)]; exact hN g a w h1 h2 h3 h4
    | false =>
      simp only [hb] at h4
      rw [if_neg (Nat.ne_of_beq_eq_false hb)]; exact hX i g a w h1 h2 h3 h4
  | cond c x y ihx ihy =>
    intro ro n rf w0 S a0 Q g a w N X R hro hi hf hs hS hN hX hR h
    have hx : ∀ t ∈ asg x, t ∈ S := fun t ht => hS t (List.mem_append_left _ ht)
    have hy : ∀ t ∈ asg y, t ∈ S := fun t ht => hS t (List.mem_append_right _ ht)
    have hrx : hasRF x = true → ro = none ∧ rf = true := fun e => hro (by simp [hasRF, e])
    have hry : hasRF y = true → ro = none ∧ rf = true := fun e => hro (by simp [hasRF, e])
    cases c with
    | tmp t =>
      simp only [vcC] at h
      cases hl : lookG g t with
      | none => simp [hl] at h
      | some v =>
        cases v <;> simp [hl] at h
        case bool b =>
          have ht := hi.look t _ hl
          have he : a.eval (.tmp t) = .bool b := by simp [Act.eval, ht]
          have hi' : ∀ b', b = b' → Inv0 cf.n ((t, .bool b') :: g) a := fun b' e => ⟨hi.size, fun s v hv => by
            subst e
            simp only [lookG] at hv
            cases hb : Nat.beq t s with
            | true =>
              simp only [hb, Option.some.injEq] at hv
              rw [← Nat.eq_of_beq_eq_true hb, ← hv]; exact ht
            | false => simp only [hb] at hv; exact hi.look s v hv⟩
          exact wpIn_cond_split he (fun e => ihx ro n rf w0 S a0 Q _ a w N X R hrx (hi' _ e) hf hs hx hN hX hR ((br_elim h).1 e))
            (fun e => ihy ro n rf w0 S a0 Q _ a w N X R hry (hi' _ e) hf hs hy hN hX hR ((br_elim h).2 e))
    | const v =>
      simp only [vcC] at h
      cases v <;> simp at h
      case bool b =>
        exact wpIn_cond_split (t := b) rfl (fun e => ihx ro n rf w0 S a0 Q _ a w N X R hrx hi hf hs hx hN hX hR ((br_elim h).1 e))
          (fun e => ihy ro n rf w0 S a0 Q _ a w N X R hry hi hf hs hy hN hX hR ((br_elim h).2 e))
    | _ => simp [vcC] at h
  | seq x y ihx ihy =>
    intro ro n rf w0 S a0 Q g a w N X R hro hi hf hs hS hN hX hR h
    have hx : ∀ t ∈ asg x, t ∈ S := fun t ht => hS t (List.mem_append_left _ ht)
    have hy : ∀ t ∈ asg y, t ∈ S := fun t ht => hS t (List.mem_append_right _ ht)
    have hrx : hasRF x = true → ro = none ∧ rf = true := fun e => hro (by simp [hasRF, e])
    have hry : hasRF y = true → ro = none ∧ rf = true := fun e => hro (by simp [hasRF, e])
    simp only [vcC] at h
    refine wpIn_seq ?_
    cases hc : isCut cf.cuts y with
    | false =>
      simp only [hc] at h
      exact ihx ro n rf w0 S a0 _ g a w _ X R hrx hi hf hs hx (fun g a w h1 h2 h3 h4 => ihy ro n rf w0 S a0 Q g a w N X R hry h1 h2 h3 hy hN hX hR h4) hX hR h
    | true =>
      simp only [hc] at h
      obtain ⟨J, h1, h2⟩ := h
      have hL : ∀ t ∈ slots cf.base (asg x) g, t < cf.n := fun t ht => (slots_in hi ht).2
      refine ihx ro n rf w0 (asg x) a _ g a w _ X R hrx hi (FrT.refl _ _) hs (fun t ht => ht) (fun g' a' w' k1 k2 k3 k4 => ?_)
        (fun i g a w k1 k2 k3 k4 => hX i g a w k1 (hf.trans (k2.mono hx)) k3 k4) (fun g a w k1 k2 k3 k4 => hR g a w k1 (hf.trans (k2.mono hx)) k3 k4) h1
      have hh := hp_vals k1 k4
      exact ihy ro n rf w0 S a0 Q _ a' w' N X R hry (hi.bind hL k2 k1.size) (hf.trans (k2.mono hx)) k3 hy hN hX hR (hp_al hh h2 _ hh)
  | loop c ih =>
    intro ro n rf w0 S a0 Q g a w N X R hro hi hf hs hS hN hX hR h
    simp only [vcC] at h
    obtain ⟨I, m, h1, h2⟩ := h
    have hL : ∀ t ∈ slots cf.base (asg c) g, t < cf.n := fun t ht => (slots_in hi ht).2
    refine wpIn_loop (fun a' w' => a'.tmps.size = cf.n ∧ FrT (asg c) a a' ∧ Snd rf w0 a' w' ∧ hp _ I (some ((slots cf.base (asg c) g).map (actVal a'))) w'.heap)
      (fun a' w' => hn _ m (some ((slots cf.base (asg c) g).map (actVal a'))) w'.heap) ⟨hi.size, FrT.refl _ _, hs, hp_vals hi h1⟩ ?_
    intro a1 w1 ⟨k1, k2, k3, k4⟩
    refine ih ro n rf w0 (asg c) a1 _ _ a1 w1 _ X R hro (hi.bind hL k2 k1) (FrT.refl _ _) k3 (fun t ht => ht) (fun g' a' w' q1 q2 q3 q4 => ?_)
      (fun i g a' w q1 q2 q3 q4 => hX i g a' w q1 (hf.trans ((k2.trans q2).mono hS)) q3 q4) (fun g a' w q1 q2 q3 q4 => hR g a' w q1 (hf.trans ((k2.trans q2).mono hS)) q3 q4)
      (hp_al k4 h2 _ k4)
    refine ⟨⟨q1.size, k2.trans q2, q3, hp_vals q1 q4.1⟩, ?_⟩
    rw [← hn_vals (m := m) q1 q4.1]
    exact q4.2

/- ------------------------------------------------------------------ a call -/

def resVals (P : Program) : List ResultVar → Env0 → Heap → (List Value → Prop) → Prop
  | [], _, _, K => K []
  | .tmp t :: r, g, h, K => match lookG g t with
    | some v => resVals P r g h fun vs => K (v :: vs)
    | none => False
  | .cell t ty :: r, g, h, K => match lookG g t with
    | some (.pointer (some p)) => exS1 (s1Of P ty) fun v => Reads P (loadVar ty p) h v ∧ resVals P r g h fun vs => K (v :: vs)
    | _ => False
def one (vs : List Value) : Value := match vs with | [v] => v | vs => .tuple vs.toArray
def argG : Nat → List Value → Env0
  | _, [] => []
  | k, v :: vs => (k, v) :: argG (k + 1) vs

def namedOf (fn : Func) : Nat :=
  (fn.tmpNames.toList.zipIdx.foldl (fun b x => match x.1 with | "" => b | _ => x.2 + 1) 0)

/-- what a call of f comes to. -/
def vcF (P : Program) (fn : Func) (base : Nat) (cuts bigs : List Nat) (args : List Value) (h : Heap) (R : Value → Heap → Prop) : Prop :=
  match fn.body with
  | none => False
  | some c => match Nat.ble args.length fn.ntmps with
    | false => False
    | true => match hasRF c with
      | false => vcC P { n := fn.ntmps, base, cuts, bigs } c (argG 0 args) h
        (fun g h => resVals P fn.results.toList g h fun vs => R (one vs) h) (fun _ _ _ => False) (fun g h => resVals P fn.results.toList g h fun vs => R (one vs) h)
      | true => vcC P { n := fn.ntmps, base, cuts, bigs } c (argG 0 args) h
        (fun g h1 => ∀ h, Turn h1 h → resVals P fn.results.toList g h fun vs => R (one vs) h) (fun _ _ _ => False) (fun g h1 => ∀ h, Turn h1 h → resVals P fn.results.toList g h fun vs => R (one vs) h)

theorem lookG_arg {t : Nat} {v : Value} : ∀ {l : List Value} {k : Nat}, lookG (argG k l) t = some v → ∃ j, t = k + j ∧ l[j]? = some v
  | [], k, h => by simp [argG, lookG] at h
  | x :: l, k, h => by
    simp only [argG, lookG] at h
    cases hb : Nat.beq k t with
    | true =>
      simp only [hb, Option.some.injEq] at h
      exact ⟨0, (Nat.eq_of_beq_eq_true hb).symm, by simp [h]⟩
    | false =>
      simp only [hb] at h
      obtain ⟨j, rfl, hj⟩ := lookG_arg h
      exact ⟨j + 1, by omega, by simpa using hj⟩

def resOf (tmps : Array Value) : ResultVar → Sem Value
  | .tmp t => pure (tmps.getD t undef)
  | .cell a t => do loadVar t (← asAddr (tmps.getD a undef))

theorem resVals_run {P : Program} {n : Nat} {g : Env0} {a : Act} {w : World} (hi : Inv0 n g a) : ∀ {rs : List ResultVar} {K : List Value → Prop}, resVals P rs g w.heap K →
    ∃ vs, (rs.mapM (resOf a.tmps)).run P w = .ok vs w ∧ K vs
  | [], K, h => ⟨[], by simp, h⟩
  | .tmp t :: rs, K, h => by
    simp only [resVals] at h
    cases hl : lookG g t with
    | none => simp [hl] at h
    | some v =>
      simp only [hl] at h
      obtain ⟨vs, h1, h2⟩ := resVals_run hi h
      refine ⟨v :: vs, ?_, h2⟩
      have := hi.look t v hl
      have e : a.tmps.getD t undef = v := by simp [this]
      have e1 : (resOf a.tmps (.tmp t)).run P w = .ok v w := by show Result.ok (a.tmps.getD t undef) w = _; rw [e]
      rw [List.mapM_cons]
      simp only [Sem.run_bind, Sem.run_pure, Result.andThen_ok, h1, e1]
  | .cell t ty :: rs, K, h => by
    simp only [resVals] at h
    cases hl : lookG g t with
    | none => simp [hl] at h
    | some v =>
      simp only [hl] at h
      cases v <;> (try simp only at h) <;> try exact h.elim
      case pointer p =>
        cases p with
        | none => exact h.elim
        | some p =>
          obtain ⟨v, hr, h⟩ := exS1_some h
          obtain ⟨vs, h1, h2⟩ := resVals_run hi h
          refine ⟨v :: vs, ?_, h2⟩
          have := hi.look t _ hl
          have e : a.tmps.getD t undef = .pointer (some p) := by simp [this]
          have e1 : (resOf a.tmps (.cell t ty)).run P w = .ok v w := by
            have := hr.run w rfl
            simp only [resOf, e, asAddr]
            exact this
          rw [List.mapM_cons]
          simp only [Sem.run_bind, Sem.run_pure, Result.andThen_ok, h1, e1]

theorem HC_of_vc {P : Program} {f : FuncId} {fn : Func} {base : Nat} {cuts bigs : List Nat} {args : List Value} {h : Heap} {R : Value → Heap → Prop}
    (hm : P.follows .mixedOrders = true) (hf : P.funcs[f]? = some fn) (hh : vcF P fn base cuts bigs args h R) : HC P f args.toArray h R := by
  unfold vcF at hh
  refine ⟨?_⟩
  intro w hw
  cases hb : fn.body with
  | none => simp [hb] at hh
  | some c =>
    simp only [hb] at hh
    cases hlen : Nat.ble args.length fn.ntmps with
    | false => simp [hlen] at hh
    | true =>
      simp only [hlen] at hh
      have hlen' := Nat.le_of_ble_eq_true hlen
      subst hw
      have start : ∀ rf, Snd rf w { tmps := args.toArray ++ Array.replicate (fn.ntmps - args.toArray.size) undef, defers := [] } w := fun rf => ⟨Sane.refl _, fun _ => rfl, [], rfl, List.nodup_nil, fun _ h => by cases h⟩
      have inv : Inv0 fn.ntmps (argG 0 args) { tmps := args.toArray ++ Array.replicate (fn.ntmps - args.toArray.size) undef, defers := [] } := by
        refine ⟨by simp; omega, fun t v hv => ?_⟩
        obtain ⟨j, rfl, hj⟩ := lookG_arg hv
        have hlt : j < args.length := (List.getElem?_eq_some_iff.1 hj).1
        rw [Nat.zero_add, Array.getElem?_append_left (by simpa using hlt)]
        simpa using hj
      have res : ∀ {g : Env0} {a : Act} {w' : World}, Inv0 fn.ntmps g a → (resVals P fn.results.toList g w'.heap fun vs => R (one vs) w'.heap) → ∃ vs, (results fn a.tmps).run P w' = .ok (one vs) w' ∧ R (one vs) w'.heap := fun {g a w'} k1 k4 => by
        obtain ⟨vs, r1, r2⟩ := resVals_run k1 k4
        refine ⟨vs, ?_, r2⟩
        have e0 : results fn a.tmps = (do let vs ← fn.results.mapM (resOf a.tmps); pure (if h : vs.size = 1 then vs[0] else .tuple vs) : Sem Value) := by
          unfold results
          congr 1
        rw [e0, Array.mapM_eq_mapM_toList]
        simp only [Sem.run_bind, Sem.run_map, r1, Result.andThen_ok, Sem.run_pure]
        congr 1
        unfold one
        cases vs with
        | nil => rfl
        | cons v vs => cases vs <;> rfl
      cases hrf : hasRF c with
      | false =>
        simp only [hrf] at hh
        refine calls_of_wp hf hb (wpIn_wide (n := 0).1 ?_)
        have ret : ∀ (e : Exit), (e = .normal ∨ e = .ret) → ∀ g a w', Inv0 fn.ntmps g a → FrT (asg c) { tmps := args.toArray ++ Array.replicate (fn.ntmps - args.toArray.size) undef, defers := [] } a → Snd false w a w' →
            (resVals P fn.results.toList g w'.heap fun vs => R (one vs) w'.heap) → bodyPost P fn (fun e w' => ∃ v, e = .returned v ∧ Sane w w' ∧ R v w'.heap) e a w' := by
          intro e he g a w' k1 k2 k3 k4
          obtain ⟨vs, hres, r2⟩ := res k1 k4
          rcases he with rfl | rfl <;> exact ⟨k3.none rfl, _, hres, _, rfl, k3.sane, r2⟩
        exact vcC_sound hm c none 0 false w (asg c) _ _ _ _ w _ _ _ (fun e => by rw [hrf] at e; cases e) inv (FrT.refl _ _) (start false) (fun t ht => ht) (ret .normal (.inl rfl)) (fun _ _ _ _ _ _ _ hf => hf.elim) (ret .ret (.inr rfl)) hh
      | true =>
        simp only [hrf] at hh
        refine (callsIn_wide (n := 0)).1 (callsIn_of_wp_marks hf hb trivial ?_)
        have ret : ∀ (e : Exit), (e = .normal ∨ e = .ret) → ∀ g a w', Inv0 fn.ntmps g a → FrT (asg c) { tmps := args.toArray ++ Array.replicate (fn.ntmps - args.toArray.size) undef, defers := [] } a → Snd true w a w' →
            (∀ h, Turn w'.heap h → resVals P fn.results.toList g h fun vs => R (one vs) h) → bodyPostM Fence.wide 0 P fn (fun e w' => ∃ v, e = .returned v ∧ Sane w w' ∧ R v w'.heap) e a w' := by
          intro e he g a w' k1 k2 k3 k4
          obtain ⟨Ds, d1, d2, d3⟩ := k3.marks
          have key : ∀ (Ds : List Nat) (w2 : World), Ds.Nodup → (∀ D ∈ Ds, w.heap.size ≤ D ∧ w2.heap[D]? = some (.deferred (some []))) → Sane w w2 → Turn w'.heap w2.heap →
              LeavesInM Fence.wide 0 P fn a.tmps (fun e w' => ∃ v, e = .returned v ∧ Sane w w' ∧ R v w'.heap) (Ds.map markOf) .returning w2 := by
            intro Ds
            induction Ds with
            | nil =>
              intro w2 _ _ hs ht
              obtain ⟨vs, hres, r2⟩ := res k1 (k4 _ ht)
              exact ⟨_, hres, _, rfl, hs, r2⟩
            | cons D Ds ih =>
              intro w2 hnd hD hs ht
              have hnd' := List.nodup_cons.1 hnd
              obtain ⟨hD1, hD2⟩ := hD D List.mem_cons_self
              refine ⟨by simp, .inl ⟨D, _, rfl, run_takeDeferred hD2, ih _ hnd'.2 (fun E hE => ⟨(hD E (List.mem_cons_of_mem _ hE)).1, (World.putObj_heap_other (fun e => by subst e; exact hnd'.1 hE)).trans (hD E (List.mem_cons_of_mem _ hE)).2⟩) (hs.putMark hD1) (ht.trans (Turn.putMark hD2 rfl))⟩⟩
          have := key Ds w' d2 d3 k3.sane (Turn.refl _)
          rw [← d1] at this
          rcases he with rfl | rfl <;> exact this
        exact vcC_sound hm c none 0 true w (asg c) _ _ _ _ w _ _ _ (fun _ => ⟨rfl, rfl⟩) inv (FrT.refl _ _) (start true) (fun t ht => ht) (ret .normal (.inl rfl)) (fun _ _ _ _ _ _ _ hf => hf.elim) (ret .ret (.inr rfl)) hh
end Go.Vc
