/-
  Texts of this seat, laid one behind the other: VcA VcB VcC VcD VcE. Conditions: none.
-/
import Derived.Orders
import Derived.OrdersIn
import Derived.ControlIn
import Derived.Tactics
import Derived.Laws.Tables
import Derived.Laws.Slices
import Derived.Laws.Panics
import Derived.Laws.Small
import Derived.Scope
import Derived.RangeFuncLeaves
import Derived.RangeFuncRecord
import Derived.RangeFuncSeq
section
namespace Go.Vc
open Go

abbrev Heap := Array Obj

/-- blocks that the machine keeps for itself: a loop's record, a list of deferred calls. -/
def isMark : Obj → Bool
  | .loop _ => true
  | .deferred _ => true
  | _ => false
/-- all but the heap and the count of draws is as it was; of the heap the machine's own blocks are. -/
structure Sane (w w' : World) : Prop where
  tape : w'.tape = w.tape
  os : w'.os = w.os
  output : w'.output = w.output
  size : w.heap.size ≤ w'.heap.size
  marks : ∀ (k : Nat) (o : Obj), w.heap[k]? = some o → isMark o = true → w'.heap[k]? = some o

theorem Sane.refl (w : World) : Sane w w := ⟨rfl, rfl, rfl, Nat.le_refl _, fun _ _ h _ => h⟩
theorem Sane.trans {a b c : World} (h : Sane a b) (k : Sane b c) : Sane a c :=
  ⟨k.tape.trans h.tape, k.os.trans h.os, k.output.trans h.output, Nat.le_trans h.size k.size, fun i o hi hm => k.marks i o (h.marks i o hi hm) hm⟩
theorem Sane.same {w w' : World} (e : w'.heap = w.heap) (t : w'.tape = w.tape := by rfl) (s : w'.os = w.os := by rfl) (u : w'.output = w.output := by rfl) : Sane w w' :=
  ⟨t, s, u, by rw [e]; exact Nat.le_refl _, fun k o h _ => by rw [e]; exact h⟩
theorem Sane.push {w w' : World} {o : Obj} (e : w'.heap = w.heap.push o) (t : w'.tape = w.tape := by rfl) (s : w'.os = w.os := by rfl) (u : w'.output = w.output := by rfl) : Sane w w' :=
  ⟨t, s, u, by rw [e]; simp, fun k o h _ => by
    have hk : k < w.heap.size := (Array.getElem?_eq_some_iff.1 h).1
    rw [e, Array.getElem?_push, if_neg (by omega)]; exact h⟩
/-- one block turns, which is none of the machine's own. -/
theorem Sane.turn {w w' : World} {r : Nat} {o : Obj} (hb : w.heap[r]? = some o) (hm : isMark o = false) (z : w.heap.size ≤ w'.heap.size) (e : ∀ k, k < w.heap.size → k ≠ r → w'.heap[k]? = w.heap[k]?)
    (t : w'.tape = w.tape := by rfl) (s : w'.os = w.os := by rfl) (u : w'.output = w.output := by rfl) : Sane w w' :=
  ⟨t, s, u, z, fun k o' h hm' => by
    by_cases hk : k = r
    · subst hk; rw [hb] at h; cases h; rw [hm] at hm'; cases hm'
    · rw [e k (Array.getElem?_eq_some_iff.1 h).1 hk]; exact h⟩
theorem Sane.set {w w' : World} {r : Nat} {o o' : Obj} (hb : w.heap[r]? = some o) (hm : isMark o = false) (e : w'.heap = w.heap.setIfInBounds r o')
    (t : w'.tape = w.tape := by rfl) (s : w'.os = w.os := by rfl) (u : w'.output = w.output := by rfl) : Sane w w' :=
  Sane.turn hb hm (by rw [e]; simp) (fun k _ hk => by rw [e, Array.getElem?_setIfInBounds_ne (Ne.symm hk)]) t s u

/-- the wide fence, in a round of a loop or in none. -/
abbrev FW (ro : Option Nat) : Fence := { Fence.wide with round := ro }
theorem noDefer {P : Program} {o : Oper} {ρ : Operand → Value} {w w' : World} {n : Next} (h : (execOp ρ o).run P w = .ok n w') (hn : ∀ d, n ≠ .defer d) : ∀ c, o.op ≠ .defer c := fun c hc => by
  simp only [execOp, hc, Sem.run_bind, Sem.run_pure] at h
  cases hr : (resolve ρ c o.type).run P w with
  | ok d w2 => rw [hr] at h; simp [Result.andThen_ok] at h; exact hn d h.1.symm
  | halt x w2 => rw [hr] at h; simp [Result.andThen] at h
theorem callsIn_FW {ro : Option Nat} {n : Nat} {P : Program} {f : FuncId} {args : Array Value} {w : World} {R : Ending → World → Prop} (h : Calls P f args w R) : CallsIn (FW ro) n P f args w R :=
  (callsIn_wide (n := n)).2 h

/-- a world over a heap. -/
def over (h : Heap) : World := { heap := h, tape := fun _ _ => 0, drawn := 0, os := default, output := #[] }
/-- a call, told by heaps: from each world over 'h' it returns a value, and leaves a heap, of which R holds. -/
structure HC (P : Program) (f : FuncId) (args : Array Value) (h : Heap) (R : Value → Heap → Prop) : Prop where
  run : ∀ w : World, w.heap = h → Calls P f args w fun e w' => ∃ v, e = .returned v ∧ Sane w w' ∧ R v w'.heap

theorem HC.mono {P : Program} {f : FuncId} {args : Array Value} {h : Heap} {R R' : Value → Heap → Prop} (hc : HC P f args h R)
    (hr : ∀ v h', R v h' → R' v h') : HC P f args h R' :=
  ⟨fun w hw => (hc.run w hw).mono fun _ _ ⟨v, e, s, r⟩ => ⟨v, e, s, hr _ _ r⟩⟩

/-- a step of the machine's, told by heaps. -/
structure SVC (P : Program) {α : Type} (s : Sem α) (h : Heap) (K : α → Heap → Prop) : Prop where
  run : ∀ w : World, w.heap = h → ∃ v w', s.run P w = .ok v w' ∧ Sane w w' ∧ K v w'.heap

/-- what a step yields that only looks. -/
structure Reads (P : Program) {α : Type} (s : Sem α) (h : Heap) (v : α) : Prop where
  run : ∀ w : World, w.heap = h → s.run P w = .ok v w

inductive Cls where
  | pure | read | eff
  deriving DecidableEq

def PureAll (P : Program) (o : Oper) (ρ : Operand → Value) (v : Value) : Prop :=
  ∀ w : World, (execOp ρ o).run P w = .ok (.value v) w
/-- where I holds of the heap, it yields v. -/
def PureAt (P : Program) (I : Heap → Prop) (o : Oper) (ρ : Operand → Value) (v : Value) : Prop :=
  ∀ w : World, I w.heap → (execOp ρ o).run P w = .ok (.value v) w

theorem PureAll.at {P : Program} {I : Heap → Prop} {o : Oper} {ρ : Operand → Value} {v : Value} (h : PureAll P o ρ v) : PureAt P I o ρ v := fun w _ => h w

def ReadAt (P : Program) (o : Oper) (ρ : Operand → Value) (h : Heap) (v : Value) : Prop :=
  ∀ w : World, w.heap = h → (execOp ρ o).run P w = .ok (.value v) w ∨ ((execOp ρ o).run P w = .ok .skip w ∧ v = undef)

def EffRes (P : Program) (w : World) (K : Value → Heap → Prop) : Result Next → Prop
  | .ok (.value v) w' => Sane w w' ∧ K v w'.heap
  | .ok .skip w' => Sane w w' ∧ K undef w'.heap
  | .ok (.enter f args) w' => Sane w w' ∧ Calls P f args w' fun e w'' => ∃ v, e = .returned v ∧ Sane w' w'' ∧ K v w''.heap
  | _ => False

def EffAt (P : Program) (o : Oper) (ρ : Operand → Value) (h : Heap) (K : Value → Heap → Prop) : Prop :=
  ∀ w : World, w.heap = h → EffRes P w K ((execOp ρ o).run P w)

theorem EffRes.mono {P : Program} {w : World} {K K' : Value → Heap → Prop} (hk : ∀ v h, K v h → K' v h) {r : Result Next}
    (h : EffRes P w K r) : EffRes P w K' r := by
  cases r with
  | ok n w' =>
    cases n <;> simp only [EffRes] at h ⊢ <;> first
      | exact ⟨h.1, hk _ _ h.2⟩
      | exact ⟨h.1, h.2.mono fun _ _ ⟨v, e, s, k⟩ => ⟨v, e, s, hk _ _ k⟩⟩
  | halt x w' => exact h.elim

theorem EffAt.mono {P : Program} {o : Oper} {ρ : Operand → Value} {h : Heap} {K K' : Value → Heap → Prop} (hk : ∀ v h, K v h → K' v h)
    (hh : EffAt P o ρ h K) : EffAt P o ρ h K' := fun w hw => (hh w hw).mono hk

theorem EffAt.some {P : Program} {o : Oper} {ρ : Operand → Value} {h : Heap} {K : Value → Heap → Prop} (hh : EffAt P o ρ h K) :
    ∃ v h', K v h' := by
  have := hh (over h) rfl
  generalize (execOp ρ o).run P (over h) = r at this
  cases r with
  | ok n w' =>
    cases n <;> simp only [EffRes] at this <;> first
      | exact ⟨_, _, this.2⟩
      | (obtain ⟨_, hc⟩ := this
         obtain ⟨e, w'', fr, ⟨v, _, _, hk⟩, _⟩ := hc []
         exact ⟨_, _, hk⟩)
  | halt x w' => exact this.elim

/-- what a region asks of heaps: ahead of an operation that only looks (where it may come on either side of what does something), and behind one that does something. -/
structure Inv2 where
  pre : Nat → Heap → Prop
  post : Nat → Heap → Prop
/-- an operation, by the class that it is taken for. -/
def vO (P : Program) (Ip Ie : Heap → Prop) (c : Cls) (o : Oper) (a : Act) (h : Heap) (K : Act → Heap → Prop) : Prop :=
  match c with
  | .pure => ∃ v, PureAt P Ip o a.eval v ∧ K (a.put o.dst v) h
  | .read => ∃ v, ReadAt P o a.eval h v ∧ K (a.put o.dst v) h
  | .eff => EffAt P o a.eval h fun v h' => Ie h' ∧ K (a.put o.dst v) h'

section
variable {P : Program} {J : Inv2} {cl : Oper → Cls} {ops : Array Oper} {md : Region.Mode}

theorem vO_mono {Ip Ie : Heap → Prop} {c : Cls} {o : Oper} {a : Act} {h : Heap} {X : Heap → Prop} {K K' : Act → Heap → Prop} (hx : X h) (hxe : c = .eff → ∀ h', Ie h' → X h') (hk : ∀ a h, X h → K a h → K' a h)
    (hh : vO P Ip Ie c o a h K) : vO P Ip Ie c o a h K' := by
  cases c <;> simp only [vO] at hh ⊢
  · exact let ⟨v, p, k⟩ := hh; ⟨v, p, hk _ _ hx k⟩
  · exact let ⟨v, p, k⟩ := hh; ⟨v, p, hk _ _ hx k⟩
  · exact hh.mono fun _ _ k => ⟨k.1, hk _ _ (hxe rfl _ k.1) k.2⟩

def vOp (P : Program) (J : Inv2) (cl : Oper → Cls) (ops : Array Oper) (i : Nat) (K : Act → Heap → Prop) (a : Act) (h : Heap) : Prop :=
  match ops[i]? with
  | none => K a h
  | some o => if Region.wanted o (yielded ops a.tmps) then vO P (J.pre i) (J.post i) (cl o) o a h K else K (a.put o.dst undef) h

theorem vOp_mono {i : Nat} {a : Act} {h : Heap} {X : Heap → Prop} {K K' : Act → Heap → Prop} (hx : X h) (hxe : ∀ o, ops[i]? = some o → cl o = .eff → ∀ h', J.post i h' → X h') (hk : ∀ a h, X h → K a h → K' a h)
    (hh : vOp P J cl ops i K a h) : vOp P J cl ops i K' a h := by
  unfold vOp at *
  split
  · exact hk _ _ hx (by simpa [*] using hh)
  · rename_i o ho
    simp only [ho] at hh
    split
    · rename_i hw; simp only [hw, if_true] at hh; exact vO_mono hx (hxe o ho) hk hh
    · rename_i hw; simp only [hw] at hh; exact hk _ _ hx hh

def vAny (P : Program) (J : Inv2) (cl : Oper → Cls) (md : Region.Mode) (ops : Array Oper) (Q : Act → Heap → Prop) : Nat → Array Bool → Act → Heap → Prop
  | 0, listed, a, h => Region.ready md ops listed = [] ∧ Q a h
  | fuel + 1, listed, a, h =>
    (Region.ready md ops listed = [] → Q a h) ∧
    ∀ i ∈ Region.ready md ops listed, vOp P J cl ops i (vAny P J cl md ops Q fuel (listed.setIfInBounds i true)) a h

/- ---------------------------------------------------------------- which operation waits for which -/

/-- does j wait for i, by at most so many edges? -/
def dep (md : Region.Mode) (ops : Array Oper) (i : Nat) : Nat → Nat → Bool
  | 0, _ => false
  | n + 1, j => match ops[j]? with
    | none => false
    | some o => o.after.any fun e => Region.binds md e && (e.on == i || dep md ops i n e.on)

def Closed (md : Region.Mode) (ops : Array Oper) (listed : Array Bool) : Prop :=
  ∀ j o, ops[j]? = some o → listed.getD j false = true → ∀ e ∈ o.after, Region.binds md e = true → listed.getD e.on false = true

/-- a carried word on heaps: it gives what a look asks ahead, and what is asked behind gives it. -/
structure Car (J : Inv2) (cl : Oper → Cls) (md : Region.Mode) (ops : Array Oper) (H : Array Bool → Heap → Prop) : Prop where
  pre : ∀ listed h i o, ops[i]? = some o → listed.getD i true = false → H listed h → J.pre i h
  mono : ∀ listed h i, H listed h → H (listed.setIfInBounds i true) h
  post : ∀ listed h i o, ops[i]? = some o → cl o = .eff → i ∈ Region.ready md ops listed → Closed md ops listed → J.post i h → H (listed.setIfInBounds i true) h

theorem getD_true_false {l : Array Bool} {i : Nat} (h : l.getD i true = false) : l.getD i false = false := by
  by_cases hi : i < l.size
  · simp [hi] at h ⊢; exact h
  · simp [hi] at h

theorem dep_unlisted {i : Nat} {listed : Array Bool} (hc : Closed md ops listed) (hi : listed.getD i false = false) :
    ∀ n j, dep md ops i n j = true → listed.getD j false = false
  | 0, _, h => by simp [dep] at h
  | n + 1, j, h => by
    simp only [dep] at h
    cases ho : ops[j]? with
    | none => simp [ho] at h
    | some o =>
      simp only [ho] at h
      obtain ⟨e, he, hb⟩ := Array.any_eq_true'.1 h
      simp only [Bool.and_eq_true, Bool.or_eq_true, beq_iff_eq] at hb
      cases hj : listed.getD j false with
      | false => rfl
      | true =>
        have h1 := hc j o ho hj e he hb.1
        rcases hb.2 with h2 | h2
        · rw [h2, hi] at h1; cases h1
        · rw [dep_unlisted hc hi n _ h2] at h1; cases h1

theorem dep_not_ready {i n j : Nat} {listed : Array Bool} (hc : Closed md ops listed) (hi : listed.getD i false = false)
    (hd : dep md ops i n j = true) : j ∉ Region.ready md ops listed := by
  intro hj
  obtain ⟨_, o, ho, hall⟩ := mem_ready.1 hj
  cases n with
  | zero => simp [dep] at hd
  | succ n =>
    simp only [dep, ho] at hd
    obtain ⟨e, he, hb⟩ := Array.any_eq_true'.1 hd
    simp only [Bool.and_eq_true, Bool.or_eq_true, beq_iff_eq] at hb
    have h1 := hall e he hb.1
    rcases hb.2 with h2 | h2
    · rw [h2, hi] at h1; cases h1
    · rw [dep_unlisted hc hi n _ h2] at h1; cases h1

theorem Closed.set {listed : Array Bool} {j : Nat} (hc : Closed md ops listed) (hj : j ∈ Region.ready md ops listed) :
    Closed md ops (listed.setIfInBounds j true) := by
  intro k o ho hk e he hb
  by_cases hjk : j = k
  · subst hjk
    obtain ⟨_, o', ho', hall⟩ := mem_ready.1 hj
    rw [ho] at ho'
    cases ho'
    exact getD_set_true (hall e he hb)
  · rw [getD_set_ne false hjk] at hk
    exact getD_set_true (hc k o ho hk e he hb)

theorem wp_of_vO {ro : Option Nat} {n : Nat} {Ip Ie : Heap → Prop} {c : Cls} {o : Oper} {a : Act} {w0 w : World} {X : Heap → Prop} {K : Act → Heap → Prop} {K' : Act → World → Prop} {Q' : Exit → Act → World → Prop}
    (hs : Sane w0 w) (hp : Ip w.heap) (hx : X w.heap) (hxe : c = .eff → ∀ h', Ie h' → X h') (hk : ∀ a w', Sane w0 w' → X w'.heap → K a w'.heap → K' a w') (hh : vO P Ip Ie c o a w.heap K) : o.wpIn (FW ro) n P a w K' Q' := by
  unfold Oper.wpIn
  refine ⟨fun _ _ => trivial, ?_⟩
  have step : ∀ {n' : Next} {w' : World}, (execOp a.eval o).run P w = .ok n' w' → (∀ d, n' ≠ .defer d) → (o.semAt (FW ro).round a.eval).run P w = .ok n' w' := fun h hn => by
    rw [Oper.semAt_eq _ _ _ (noDefer h hn)]; exact h
  cases c <;> simp only [vO] at hh
  · obtain ⟨v, p, k⟩ := hh
    rw [step (p w hp) (fun d e => by cases e)]; exact hk _ _ hs hx k
  · obtain ⟨v, p, k⟩ := hh
    rcases p w rfl with q | ⟨q, rfl⟩ <;> rw [step q (fun d e => by cases e)] <;> exact hk _ _ hs hx k
  · have := hh w rfl
    generalize hr : (execOp a.eval o).run P w = r at this
    cases r with
    | ok n w' =>
      cases n <;> simp only [EffRes] at this <;> rw [step hr (fun d e => by cases e)] <;> simp only [Oper.uponIn]
      case enter f args =>
        exact ⟨fun h => by simp [Fence.wide] at h, callsIn_FW (this.2.mono fun e w'' ⟨v, he, s, k⟩ => by subst he; exact hk _ _ (hs.trans (this.1.trans s)) (hxe rfl _ k.1) k.2)⟩
      all_goals exact hk _ _ (hs.trans this.1) (hxe rfl _ this.2.1) this.2.2
    | halt x w' => exact this.elim

theorem wpOp_of_vOp {ro : Option Nat} {n : Nat} {i : Nat} {a : Act} {w0 w : World} {X : Heap → Prop} {K : Act → Heap → Prop} {K' : Act → World → Prop} {Q' : Exit → Act → World → Prop}
    (hs : Sane w0 w) (hp : ∀ o, ops[i]? = some o → J.pre i w.heap) (hx : X w.heap) (hxe : ∀ o, ops[i]? = some o → cl o = .eff → ∀ h', J.post i h' → X h') (hk : ∀ a w', Sane w0 w' → X w'.heap → K a w'.heap → K' a w')
    (hh : vOp P J cl ops i K a w.heap) : wpOpIn (FW ro) n P ops Q' i K' a w := by
  unfold vOp at hh
  unfold wpOpIn
  split
  · rename_i ho; simp only [ho] at hh; exact hk _ _ hs hx hh
  · rename_i o ho
    simp only [ho] at hh
    split
    · rename_i hw; simp only [hw, if_true] at hh; exact wp_of_vO hs (hp o ho) hx (hxe o ho) hk hh
    · rename_i hw; simp only [hw] at hh; exact ⟨fun _ _ => trivial, hk _ _ hs hx hh⟩

theorem wpAny_of_vAny {ro : Option Nat} {n : Nat} {H : Array Bool → Heap → Prop} (hH : Car J cl md ops H) {Q : Act → Heap → Prop} {Q' : Exit → Act → World → Prop} {w0 : World} (hQ : ∀ a w, Sane w0 w → Q a w.heap → Q' .normal a w) :
    ∀ (fuel : Nat) (listed : Array Bool) (a : Act) (w : World), Sane w0 w → Closed md ops listed → H listed w.heap →
    vAny P J cl md ops Q fuel listed a w.heap → wpAnyIn (FW ro) n P md ops Q' fuel listed a w
  | 0, _, _, _, hs, _, _, h => ⟨h.1, hQ _ _ hs h.2⟩
  | fuel + 1, listed, _, _, hs, hc, hI, h =>
    ⟨fun h0 => hQ _ _ hs (h.1 h0), fun i hi => wpOp_of_vOp (X := H (listed.setIfInBounds i true)) hs (fun o ho => hH.pre listed _ i o ho (mem_ready.1 hi).1 hI) (hH.mono _ _ _ hI)
      (fun o ho he h' hp => hH.post listed h' i o ho he hi hc hp) (fun a' w' s hI' k => wpAny_of_vAny hH hQ fuel _ a' w' s (hc.set hi) hI' k) (h.2 i hi)⟩

/-- a region that asks nothing. -/
def J0 : Inv2 := ⟨fun _ _ => True, fun _ _ => True⟩
theorem car0 : Car J0 cl md ops fun _ _ => True := ⟨fun _ _ _ _ _ _ _ => trivial, fun _ _ _ _ => trivial, fun _ _ _ _ _ _ _ _ _ => trivial⟩

/-- in the order of a list. -/
def vList (P : Program) (J : Inv2) (cl : Oper → Cls) (ops : Array Oper) (Q : Act → Heap → Prop) : List Nat → Act → Heap → Prop
  | [], a, h => Q a h
  | i :: rest, a, h => vOp P J cl ops i (vList P J cl ops Q rest) a h

theorem wpOps_of_vList {ro : Option Nat} {n : Nat} {Q : Act → Heap → Prop} {Q' : Exit → Act → World → Prop} {w0 : World} (hQ : ∀ a w, Sane w0 w → Q a w.heap → Q' .normal a w) :
    ∀ (l : List Nat) (a : Act) (w : World), Sane w0 w → vList P J0 cl ops Q l a w.heap → wpOpsIn (FW ro) n P ops Q' l a w
  | [], _, _, hs, h => hQ _ _ hs h
  | i :: l, a, w, hs, h => by
    rw [wpOpsIn_cons]
    exact wpOp_of_vOp (X := fun _ => True) hs (fun _ _ => trivial) trivial (fun _ _ _ _ _ => trivial) (fun a' w' s _ k => wpOps_of_vList hQ l a' w' s k) h

/- ---------------------------------------------------------------- an operation that only looks, first -/

/-- what an operation that only looks yields. -/
def Yld (P : Program) (I : Heap → Prop) (ops : Array Oper) (c : Cls) (o : Oper) (v : Value) (a : Act) (h : Heap) : Prop :=
  (Region.wanted o (yielded ops a.tmps) = true ∧ match c with | .pure => PureAt P I o a.eval v | .read => ReadAt P o a.eval h v | .eff => False) ∨
  (Region.wanted o (yielded ops a.tmps) = false ∧ v = undef)

theorem Yld.vOp {i : Nat} {o : Oper} {v : Value} {a : Act} {h : Heap} {K : Act → Heap → Prop} (hi : ops[i]? = some o) (hy : Yld P (J.pre i) ops (cl o) o v a h)
    (hk : K (a.put o.dst v) h) : vOp P J cl ops i K a h := by
  unfold Vc.vOp
  simp only [hi]
  rcases hy with ⟨hw, hv⟩ | ⟨hw, rfl⟩
  · simp only [hw, if_true]
    cases hc : cl o <;> simp only [hc, vO] at hv ⊢
    · exact ⟨v, hv, hk⟩
    · exact ⟨v, hv, hk⟩
  · simp only [hw, Bool.false_eq_true, if_false]; exact hk

theorem Yld.of_same {I : Heap → Prop} {c : Cls} {o : Oper} {v : Value} {a a' : Act} {h : Heap} (hy : Yld P I ops c o v a h) (he : execOp a'.eval o = execOp a.eval o)
    (hw : Region.wanted o (yielded ops a'.tmps) = Region.wanted o (yielded ops a.tmps)) : Yld P I ops c o v a' h := by
  unfold Yld PureAt ReadAt at *
  rw [he, hw]
  exact hy

theorem Yld.any_heap {I : Heap → Prop} {o : Oper} {v : Value} {a : Act} {h : Heap} (h' : Heap) (hy : Yld P I ops .pure o v a h) : Yld P I ops .pure o v a h' := hy

theorem yld_of_vOp {i : Nat} {o : Oper} {a : Act} {h : Heap} {K : Act → Heap → Prop} (hi : ops[i]? = some o) (hne : cl o ≠ .eff)
    (hh : Vc.vOp P J cl ops i K a h) : ∃ v, Yld P (J.pre i) ops (cl o) o v a h ∧ K (a.put o.dst v) h := by
  unfold Vc.vOp at hh
  simp only [hi] at hh
  by_cases hw : Region.wanted o (yielded ops a.tmps) = true
  · simp only [hw, if_true] at hh
    cases hc : cl o <;> simp only [hc, vO] at hh
    · obtain ⟨v, p, k⟩ := hh; exact ⟨v, .inl ⟨hw, p⟩, k⟩
    · obtain ⟨v, p, k⟩ := hh; exact ⟨v, .inl ⟨hw, p⟩, k⟩
    · exact absurd hc hne
  · simp only [hw] at hh
    exact ⟨undef, .inr ⟨by simpa using hw, rfl⟩, hh⟩

theorem vOp_put {I : Heap → Prop} {j : Nat} {oi oj : Oper} {v : Value} (hj : ops[j]? = some oj) (hap : oi.apart ops oj = true)
    (hsi : ∀ cs b, oi.op ≠ .select cs b) (hsj : ∀ cs b, oj.op ≠ .select cs b) {K : Act → Heap → Prop} {a : Act} {h : Heap}
    (hce : cl oj = .eff → cl oi = .pure)
    (hy : Yld P I ops (cl oi) oi v a h) (hh : vOp P J cl ops j K (a.put oi.dst v) h) :
    vOp P J cl ops j (fun a' h' => Yld P I ops (cl oi) oi v a' h' ∧ K (a'.put oi.dst v) h') a h := by
  obtain ⟨h1, h2, h3⟩ := Oper.apart_spec hap
  have keep : ∀ (a : Act) h, Yld P I ops (cl oi) oi v a h → ∀ u, Yld P I ops (cl oi) oi v (a.put oj.dst u) h := fun a h hy u =>
    hy.of_same (execOp_put oi hsi a oj.dst u h3) (wanted_put oi a oj.dst u h3)
  unfold vOp at *
  simp only [hj] at *
  rw [wanted_put oj a oi.dst v h1] at hh
  split
  · rename_i hw
    simp only [hw, if_true] at hh
    cases hc : cl oj <;> simp only [hc, vO] at hh ⊢
    · obtain ⟨u, p, k⟩ := hh
      refine ⟨u, ?_, keep a h hy u, by rw [← Act.put_comm a v u h2]; exact k⟩
      unfold PureAt at *
      rwa [execOp_put oj hsj a oi.dst v h1] at p
    · obtain ⟨u, p, k⟩ := hh
      refine ⟨u, ?_, keep a h hy u, by rw [← Act.put_comm a v u h2]; exact k⟩
      unfold ReadAt at *
      rwa [execOp_put oj hsj a oi.dst v h1] at p
    · unfold EffAt at *
      rw [execOp_put oj hsj a oi.dst v h1] at hh
      intro w hw
      refine (hh w hw).mono fun u h' k => ⟨k.1, ?_, by rw [← Act.put_comm a v u h2]; exact k.2⟩
      have hp := hce hc
      rw [hp] at hy ⊢
      have := keep a h (by rw [hp]; exact hy) u
      rw [hp] at this
      exact this.any_heap h'
  · rename_i hw
    simp only [hw] at hh
    exact ⟨keep a h hy _, by rw [← Act.put_comm a v undef h2]; exact hh⟩

theorem vAny_first {H : Array Bool → Heap → Prop} (hH : Car J cl md ops H) {Q : Act → Heap → Prop} {i : Nat} {oi : Oper} {v : Value} (hi : ops[i]? = some oi)
    (hsel : ∀ (j : Nat) (o : Oper) cs b, ops[j]? = some o → o.op ≠ .select cs b) :
    ∀ (fuel : Nat) (listed : Array Bool) (a : Act) (h : Heap), H listed h → Closed md ops listed →
      (∀ j oj, ops[j]? = some oj → j ≠ i → listed.getD j true = false → (∀ e ∈ oj.after, Region.binds md e = true → e.on ≠ i) → oi.apart ops oj = true) →
      (cl oi = .pure ∨ ∀ j oj, ops[j]? = some oj → cl oj = .eff → listed.getD j true = false → j ≠ i → ∃ n, dep md ops i n j = true) →
      i ∈ Region.ready md ops listed → Yld P (J.pre i) ops (cl oi) oi v a h →
      vAny P J cl md ops Q fuel (listed.setIfInBounds i true) (a.put oi.dst v) h → vAny P J cl md ops Q (fuel + 1) listed a h := by
  intro fuel
  induction fuel with
  | zero =>
    intro listed a h _ _ _ _ hr hy HH
    refine ⟨fun h => (by rw [h] at hr; cases hr), fun j hj => ?_⟩
    by_cases hji : j = i
    · subst hji; exact hy.vOp hi HH
    · have := ready_mono hj hji
      rw [HH.1] at this
      cases this
  | succ fuel ih =>
    intro listed a h hI hcl hfree hord hr hy HH
    refine ⟨fun h => (by rw [h] at hr; cases hr), fun j hj => ?_⟩
    by_cases hji : j = i
    · subst hji; exact hy.vOp hi HH
    · have h1 := HH.2 j (ready_mono hj hji)
      obtain ⟨hjun, oj, hoj, hall⟩ := mem_ready.1 hj
      have hiun := getD_true_false (mem_ready.1 hr).1
      have hnot : ∀ e ∈ oj.after, Region.binds md e = true → e.on ≠ i := fun e he hb heq => by
        have h1 := hall e he hb
        rw [heq, hiun] at h1
        cases h1
      have hce : cl oj = .eff → cl oi = .pure := fun hc => by
        rcases hord with h0 | h0
        · exact h0
        · obtain ⟨n, hd⟩ := h0 j oj hoj hc hjun hji
          exact absurd hj (dep_not_ready hcl hiun hd)
      have h2 := vOp_put hoj (hfree j oj hoj hji hjun hnot) (fun cs b => hsel i oi cs b hi) (fun cs b => hsel j oj cs b hoj) hce hy h1
      have back : ∀ k, (listed.setIfInBounds j true).getD k true = false → listed.getD k true = false := fun k hun => by
        by_cases hjk : j = k
        · subst hjk; exact hjun
        · rw [getD_set_ne true hjk] at hun; exact hun
      have hfree' : ∀ k ok, ops[k]? = some ok → k ≠ i → (listed.setIfInBounds j true).getD k true = false →
          (∀ e ∈ ok.after, Region.binds md e = true → e.on ≠ i) → oi.apart ops ok = true := fun k ok hk hki hun hno =>
        hfree k ok hk hki (back k hun) hno
      have hord' : cl oi = .pure ∨ ∀ k ok, ops[k]? = some ok → cl ok = .eff → (listed.setIfInBounds j true).getD k true = false → k ≠ i → ∃ n, dep md ops i n k = true :=
        hord.imp id fun h0 k ok hk hc hun hki => h0 k ok hk hc (back k hun) hki
      refine vOp_mono (X := H (listed.setIfInBounds j true)) (hH.mono _ _ _ hI) (fun o ho he h' hp => hH.post listed h' j o ho he hj hcl hp) (fun a' h' hI' h3 => ih (listed.setIfInBounds j true) a' h' hI' (hcl.set hj) hfree' hord' (ready_mono hr (Ne.symm hji)) h3.1 ?_) h2
      rw [Array.setIfInBounds_comm _ _ hji]
      exact h3.2

/- ---------------------------------------------------------------- an operation that does something, first -/

theorem pureAt_unique {I : Heap → Prop} {o : Oper} {ρ : Operand → Value} {u v : Value} {h0 : Heap} (hI : I h0) (h : PureAt P I o ρ u) (h' : PureAt P I o ρ v) : u = v := by
  have a := h (over h0) hI
  rw [h' (over h0) hI] at a
  simp at a
  exact a.symm

theorem yld_pure_unique {I : Heap → Prop} {o : Oper} {a : Act} {h h' h0 : Heap} {u v : Value} (hI : I h0) (hu : Yld P I ops .pure o u a h) (hv : Yld P I ops .pure o v a h') : u = v := by
  rcases hu with ⟨hw, p⟩ | ⟨hw, rfl⟩ <;> rcases hv with ⟨hw', p'⟩ | ⟨hw', rfl⟩
  · exact pureAt_unique hI p p'
  · rw [hw] at hw'; cases hw'
  · rw [hw] at hw'; cases hw'
  · rfl

/-- i, which does something, leaves some heap; of it and what i yields K holds. -/
theorem vOp_eff_some {i : Nat} {oi : Oper} {a : Act} {h : Heap} {K : Act → Heap → Prop} (hi : ops[i]? = some oi)
    (hh : vOp P J cl ops i K a h) : ∃ v h', K (a.put oi.dst v) h' := by
  unfold vOp at hh
  simp only [hi] at hh
  split at hh
  · cases hc : cl oi <;> simp only [hc, vO] at hh
    · exact let ⟨v, _, k⟩ := hh; ⟨v, h, k⟩
    · exact let ⟨v, _, k⟩ := hh; ⟨v, h, k⟩
    · exact let ⟨v, h', k⟩ := EffAt.some hh; ⟨v, h', k.2⟩
  · exact ⟨_, _, hh⟩

theorem vOp_put_eff {i : Nat} {oi oj : Oper} {u : Value} (hi : ops[i]? = some oi) (hap : oj.apart ops oi = true)
    (hsi : ∀ cs b, oi.op ≠ .select cs b) {K K' : Act → Heap → Prop} {a : Act} {h : Heap}
    (hk : ∀ v h', K (a.put oi.dst v) h' → K' ((a.put oi.dst v).put oj.dst u) h')
    (hh : vOp P J cl ops i K a h) : vOp P J cl ops i K' (a.put oj.dst u) h := by
  obtain ⟨h1, h2, h3⟩ := Oper.apart_spec hap
  unfold vOp at *
  simp only [hi] at *
  rw [wanted_put oi a oj.dst u h1]
  have hk2 : ∀ v h', K (a.put oi.dst v) h' → K' ((a.put oj.dst u).put oi.dst v) h' := fun v h' k => by
    rw [Act.put_comm a u v h2]; exact hk v h' k
  split
  · rename_i hw
    simp only [hw, if_true] at hh
    cases hc : cl oi <;> simp only [hc, vO] at hh ⊢
    · obtain ⟨v, p, k⟩ := hh
      refine ⟨v, ?_, hk2 _ _ k⟩
      unfold PureAt at *; rwa [execOp_put oi hsi a oj.dst u h1]
    · obtain ⟨v, p, k⟩ := hh
      refine ⟨v, ?_, hk2 _ _ k⟩
      unfold ReadAt at *; rwa [execOp_put oi hsi a oj.dst u h1]
    · unfold EffAt at *
      rw [execOp_put oi hsi a oj.dst u h1]
      exact fun w hw => (hh w hw).mono fun v h' k => ⟨k.1, hk2 v h' k.2⟩
  · rename_i hw
    simp only [hw] at hh
    exact hk2 _ _ hh

theorem apart_symm {x y : Oper} (h : x.apart ops y = true) : y.apart ops x = true := by
  cases hx : x.dst <;> cases hy : y.dst <;> simp [Oper.apart, hx, hy] at h ⊢
  · exact h
  · exact h
  · obtain ⟨⟨h1, h2⟩, h3⟩ := h
    exact ⟨⟨h3, fun e => h2 e.symm⟩, h1⟩

theorem vAny_first_eff {H : Array Bool → Heap → Prop} (hH : Car J cl md ops H) {Q : Act → Heap → Prop} {i : Nat} {oi : Oper} (hi : ops[i]? = some oi)
    (hsel : ∀ (j : Nat) (o : Oper) cs b, ops[j]? = some o → o.op ≠ .select cs b) :
    ∀ (fuel : Nat) (listed : Array Bool) (a : Act) (h : Heap), H listed h → Closed md ops listed →
      (∀ j oj, ops[j]? = some oj → j ≠ i → listed.getD j true = false → (∀ e ∈ oj.after, Region.binds md e = true → e.on ≠ i) → oi.apart ops oj = true) →
      (∀ j oj, ops[j]? = some oj → cl oj ≠ .pure → listed.getD j true = false → j ≠ i → ∃ n, dep md ops i n j = true) →
      i ∈ Region.ready md ops listed →
      vOp P J cl ops i (vAny P J cl md ops Q fuel (listed.setIfInBounds i true)) a h → vAny P J cl md ops Q (fuel + 1) listed a h := by
  intro fuel
  induction fuel with
  | zero =>
    intro listed a h _ _ _ _ hr HH
    refine ⟨fun h => (by rw [h] at hr; cases hr), fun j hj => ?_⟩
    by_cases hji : j = i
    · subst hji; exact HH
    · obtain ⟨v, h', k⟩ := vOp_eff_some hi HH
      have := ready_mono hj hji
      rw [k.1] at this
      cases this
  | succ fuel ih =>
    intro listed a h hI hcl hfree hord hr HH
    refine ⟨fun h => (by rw [h] at hr; cases hr), fun j hj => ?_⟩
    by_cases hji : j = i
    · subst hji; exact HH
    · obtain ⟨hjun, oj, hoj, hall⟩ := mem_ready.1 hj
      have hiun := getD_true_false (mem_ready.1 hr).1
      have hnot : ∀ e ∈ oj.after, Region.binds md e = true → e.on ≠ i := fun e he hb heq => by
        have h1 := hall e he hb
        rw [heq, hiun] at h1
        cases h1
      have hpure : cl oj = .pure := by
        cases hc : cl oj with
        | pure => rfl
        | _ =>
          obtain ⟨n, hd⟩ := hord j oj hoj (by rw [hc]; simp) hjun hji
          exact absurd hj (dep_not_ready hcl hiun hd)
      have hap := hfree j oj hoj hji hjun hnot
      obtain ⟨p1, p2, p3⟩ := Oper.apart_spec hap
      have hsj := fun cs b => hsel j oj cs b hoj
      have hsi := fun cs b => hsel i oi cs b hi
      -- what j yields behind i, it yields ahead of it
      have ahead : ∀ v h', vAny P J cl md ops Q (fuel + 1) (listed.setIfInBounds i true) (a.put oi.dst v) h' →
          ∃ u, Yld P (J.pre j) ops (cl oj) oj u a h ∧ vAny P J cl md ops Q fuel ((listed.setIfInBounds i true).setIfInBounds j true) ((a.put oi.dst v).put oj.dst u) h' := by
        intro v h' k
        obtain ⟨u, y, k'⟩ := yld_of_vOp hoj (by rw [hpure]; simp) (k.2 j (ready_mono hj hji))
        refine ⟨u, ?_, k'⟩
        have y' := y.of_same (a' := a) (execOp_put oj hsj a oi.dst v p1).symm (wanted_put oj a oi.dst v p1).symm
        rw [hpure] at y' ⊢
        exact y'.any_heap h
      obtain ⟨v0, h0, k0⟩ := vOp_eff_some hi HH
      obtain ⟨u, yu, _⟩ := ahead v0 h0 k0
      refine yu.vOp hoj ?_
      have back : ∀ k, (listed.setIfInBounds j true).getD k true = false → listed.getD k true = false := fun k hun => by
        by_cases hjk : j = k
        · subst hjk; exact hjun
        · rw [getD_set_ne true hjk] at hun; exact hun
      refine ih (listed.setIfInBounds j true) (a.put oj.dst u) h (hH.mono _ _ _ hI) (hcl.set hj) (fun k ok hk hki hun hno => hfree k ok hk hki (back k hun) hno)
        (fun k ok hk hc hun hki => hord k ok hk hc (back k hun) hki) (ready_mono hr (Ne.symm hji)) ?_
      refine vOp_put_eff hi (apart_symm hap) hsi (fun v h' k => ?_) HH
      obtain ⟨u', yu', k'⟩ := ahead v h' k
      rw [hpure] at yu yu'
      rw [yld_pure_unique (hH.pre listed h j oj hoj hjun hI) yu yu', Array.setIfInBounds_comm _ _ hji]
      exact k'

/- ---------------------------------------------------------------- the order of the text -/

def ordOk (cl : Oper → Cls) (md : Region.Mode) (ops : Array Oper) (listed : Array Bool) (i : Nat) : Bool :=
  match ops[i]? with
  | none => false
  | some oi => match cl oi with
    | .pure => true
    | .read => (List.range ops.size).all fun j => j == i || listed.getD j true || match ops[j]? with
        | some oj => (cl oj != .eff) || dep md ops i ops.size j
        | none => true
    | .eff => (List.range ops.size).all fun j => j == i || listed.getD j true || match ops[j]? with
        | some oj => (cl oj == .pure) || dep md ops i ops.size j
        | none => true

def lexFrom (cl : Oper → Cls) (md : Region.Mode) (ops : Array Oper) : Nat → Nat → Array Bool → Bool
  | 0, _, listed => (Region.ready md ops listed).isEmpty
  | fuel + 1, k, listed => (Region.ready md ops listed).contains k && Region.free md ops listed k && ordOk cl md ops listed k &&
      lexFrom cl md ops fuel (k + 1) (listed.setIfInBounds k true)

def lexB (cl : Oper → Cls) (md : Region.Mode) (ops : Array Oper) : Bool :=
  Region.noSelect ops && lexFrom cl md ops ops.size 0 (Array.replicate ops.size false)

theorem vAny_lex {H : Array Bool → Heap → Prop} (hH : Car J cl md ops H) {Q : Act → Heap → Prop} (hs : Region.noSelect ops = true) : ∀ (n k : Nat) (listed : Array Bool) (a : Act) (h : Heap), H listed h → Closed md ops listed →
    lexFrom cl md ops n k listed = true → vList P J cl ops Q (List.range' k n) a h → vAny P J cl md ops Q n listed a h
  | 0, _, _, _, _, _, _, hB, hh => ⟨by simpa [lexFrom] using hB, hh⟩
  | n + 1, k, listed, a, h, hI, hc, hB, hh => by
    simp only [lexFrom, Bool.and_eq_true] at hB
    obtain ⟨⟨⟨hr, hf⟩, ho⟩, hB'⟩ := hB
    have hr' : k ∈ Region.ready md ops listed := by simpa using hr
    obtain ⟨_, oi, hi, _⟩ := mem_ready.1 hr'
    rw [List.range'_succ] at hh
    simp only [vList] at hh
    have step := fun (a : Act) (h : Heap) (hI : H (listed.setIfInBounds k true) h) (k' : vList P J cl ops Q (List.range' (k + 1) n) a h) => vAny_lex hH hs n (k + 1) _ a h hI (hc.set hr') hB' k'
    have inRange : ∀ j oj, ops[j]? = some oj → j ∈ List.range ops.size := fun j oj hj => by
      rw [List.mem_range]; exact (Array.getElem?_eq_some_iff.1 hj).1
    simp only [ordOk, hi] at ho
    cases hcl : cl oi with
    | pure =>
      obtain ⟨v, y, k'⟩ := yld_of_vOp hi (by rw [hcl]; simp) hh
      exact vAny_first hH hi (Region.noSelect_spec hs) n listed a h hI hc (Region.free_spec hi hf) (.inl hcl) hr' y (step _ _ (hH.mono _ _ _ hI) k')
    | read =>
      obtain ⟨v, y, k'⟩ := yld_of_vOp hi (by rw [hcl]; simp) hh
      refine vAny_first hH hi (Region.noSelect_spec hs) n listed a h hI hc (Region.free_spec hi hf) (.inr fun j oj hj he hun hne => ?_) hr' y (step _ _ (hH.mono _ _ _ hI) k')
      simp only [hcl, List.all_eq_true] at ho
      have := ho j (inRange j oj hj)
      simp only [hj, he, Bool.or_eq_true, beq_iff_eq, hne, false_or, hun, Bool.false_eq_true, bne_self_eq_false] at this
      exact ⟨_, this⟩
    | eff =>
      refine vAny_first_eff hH hi (Region.noSelect_spec hs) n listed a h hI hc (Region.free_spec hi hf) (fun j oj hj he hun hne => ?_) hr' (vOp_mono (X := H (listed.setIfInBounds k true)) (hH.mono _ _ _ hI) (fun o ho he h' hp => hH.post listed h' k o ho he hr' hc hp) step hh)
      simp only [hcl, List.all_eq_true] at ho
      have := ho j (inRange j oj hj)
      simp only [hj, Bool.or_eq_true, beq_iff_eq, hne, false_or, hun, Bool.false_eq_true, he] at this
      exact ⟨_, this⟩

theorem closed_none (n : Nat) : Closed md ops (Array.replicate n false) := by
  intro j o _ hj
  by_cases h : j < n <;> simp [h] at hj

/- ---------------------------------------------------------------- orders that part -/

/-- orders: one operation behind the other; where two that do something may come in either order, they part. -/
inductive Tr where
  | nil
  | cons (k : Nat) (t : Tr)
  | fork (t u : Tr)
def Tr.ofList : List Nat → Tr
  | [] => .nil
  | k :: l => .cons k (Tr.ofList l)
def Tr.heads : Tr → List Nat
  | .nil => []
  | .cons k _ => [k]
  | .fork t u => t.heads ++ u.heads

def vTree (P : Program) (J : Inv2) (cl : Oper → Cls) (ops : Array Oper) (Q : Act → Heap → Prop) : Tr → Act → Heap → Prop
  | .nil, a, h => Q a h
  | .cons i t, a, h => vOp P J cl ops i (vTree P J cl ops Q t) a h
  | .fork t u, a, h => vTree P J cl ops Q t a h ∧ vTree P J cl ops Q u a h
theorem vList_of_tree {Q : Act → Heap → Prop} : ∀ (l : List Nat) (a : Act) (h : Heap), vTree P J0 cl ops Q (Tr.ofList l) a h → vList P J0 cl ops Q l a h
  | [], _, _, hh => hh
  | _ :: l, _, _, hh => vOp_mono (cl := cl) (X := fun _ => True) trivial (fun _ _ _ _ _ => trivial) (fun a h _ k => vList_of_tree l a h k) hh

/-- does a tree serve for every order? (fk: right behind a parting) -/
def treeOk (cl : Oper → Cls) (md : Region.Mode) (ops : Array Oper) : Tr → Bool → Nat → Array Bool → Bool
  | .nil, fk, _, listed => fk || (Region.ready md ops listed).isEmpty
  | .cons k t, fk, n, listed => match n with
    | 0 => false
    | n + 1 => (Region.ready md ops listed).contains k && (fk || (Region.free md ops listed k && ordOk cl md ops listed k)) && treeOk cl md ops t false n (listed.setIfInBounds k true)
  | .fork t u, fk, n, listed => (fk || (!(t.heads ++ u.heads).isEmpty && (Region.ready md ops listed).all (fun i => (t.heads ++ u.heads).contains i))) && treeOk cl md ops t true n listed && treeOk cl md ops u true n listed

theorem vAny_tree {H : Array Bool → Heap → Prop} (hH : Car J cl md ops H) {Q : Act → Heap → Prop} (hs : Region.noSelect ops = true) : ∀ (t : Tr) (n : Nat) (listed : Array Bool) (a : Act) (h : Heap), H listed h → Closed md ops listed → vTree P J cl ops Q t a h →
    (treeOk cl md ops t false n listed = true → vAny P J cl md ops Q n listed a h) ∧
    (treeOk cl md ops t true n listed = true → ∀ i ∈ t.heads, i ∈ Region.ready md ops listed ∧ ∃ m, n = m + 1 ∧ vOp P J cl ops i (vAny P J cl md ops Q m (listed.setIfInBounds i true)) a h)
  | .nil, n, listed, a, h, hI, hc, hh => by
    refine ⟨fun hB => ?_, fun _ i hi => by cases hi⟩
    have h0 : Region.ready md ops listed = [] := by simpa [treeOk] using hB
    cases n with
    | zero => exact ⟨h0, hh⟩
    | succ n => exact ⟨fun _ => hh, fun i hi => by rw [h0] at hi; cases hi⟩
  | .cons k t, n, listed, a, h, hI, hc, hh => by
    simp only [vTree] at hh
    cases n with
    | zero => exact ⟨fun hB => by simp [treeOk] at hB, fun hB => by simp [treeOk] at hB⟩
    | succ n =>
      have step : k ∈ Region.ready md ops listed → treeOk cl md ops t false n (listed.setIfInBounds k true) = true →
          vOp P J cl ops k (vAny P J cl md ops Q n (listed.setIfInBounds k true)) a h := fun hr hB' =>
        vOp_mono (X := H (listed.setIfInBounds k true)) (hH.mono _ _ _ hI) (fun o ho he h' hp => hH.post listed h' k o ho he hr hc hp) (fun a h hI k' => (vAny_tree hH hs t n _ a h hI (hc.set hr) k').1 hB') hh
      refine ⟨fun hB => ?_, fun hB i hi => ?_⟩
      · simp only [treeOk, Bool.and_eq_true, Bool.false_or] at hB
        obtain ⟨⟨hr, hf, ho⟩, hB'⟩ := hB
        have hr' : k ∈ Region.ready md ops listed := by simpa using hr
        obtain ⟨_, oi, hi, _⟩ := mem_ready.1 hr'
        have hst := step hr' hB'
        have inRange : ∀ j oj, ops[j]? = some oj → j ∈ List.range ops.size := fun j oj hj => by
          rw [List.mem_range]; exact (Array.getElem?_eq_some_iff.1 hj).1
        simp only [ordOk, hi] at ho
        cases hcl : cl oi with
        | pure =>
          obtain ⟨v, y, k'⟩ := yld_of_vOp hi (by rw [hcl]; simp) hst
          exact vAny_first hH hi (Region.noSelect_spec hs) n listed a h hI hc (Region.free_spec hi hf) (.inl hcl) hr' y k'
        | read =>
          obtain ⟨v, y, k'⟩ := yld_of_vOp hi (by rw [hcl]; simp) hst
          refine vAny_first hH hi (Region.noSelect_spec hs) n listed a h hI hc (Region.free_spec hi hf) (.inr fun j oj hj he hun hne => ?_) hr' y k'
          simp only [hcl, List.all_eq_true] at ho
          have := ho j (inRange j oj hj)
          simp only [hj, he, Bool.or_eq_true, beq_iff_eq, hne, false_or, hun, Bool.false_eq_true, bne_self_eq_false] at this
          exact ⟨_, this⟩
        | eff =>
          refine vAny_first_eff hH hi (Region.noSelect_spec hs) n listed a h hI hc (Region.free_spec hi hf) (fun j oj hj he hun hne => ?_) hr' hst
          simp only [hcl, List.all_eq_true] at ho
          have := ho j (inRange j oj hj)
          simp only [hj, Bool.or_eq_true, beq_iff_eq, hne, false_or, hun, Bool.false_eq_true, he] at this
          exact ⟨_, this⟩
      · simp only [treeOk, Bool.and_eq_true, Bool.true_or, and_true] at hB
        simp only [Tr.heads, List.mem_singleton] at hi
        subst hi
        have hr' : i ∈ Region.ready md ops listed := by simpa using hB.1
        exact ⟨hr', n, rfl, step hr' hB.2⟩
  | .fork t u, n, listed, a, h, hI, hc, hh => by
    obtain ⟨ht, hu⟩ := hh
    have both : treeOk cl md ops t true n listed = true → treeOk cl md ops u true n listed = true → ∀ i ∈ t.heads ++ u.heads, i ∈ Region.ready md ops listed ∧ ∃ m, n = m + 1 ∧ vOp P J cl ops i (vAny P J cl md ops Q m (listed.setIfInBounds i true)) a h := fun h1 h2 i hi => by
      rcases List.mem_append.1 hi with hi | hi
      · exact (vAny_tree hH hs t n listed a h hI hc ht).2 h1 i hi
      · exact (vAny_tree hH hs u n listed a h hI hc hu).2 h2 i hi
    refine ⟨fun hB => ?_, fun hB => ?_⟩
    · simp only [treeOk, Bool.and_eq_true, Bool.false_or, List.all_eq_true] at hB
      obtain ⟨⟨⟨hne, hall⟩, h1⟩, h2⟩ := hB
      have hb := both h1 h2
      cases hl : t.heads ++ u.heads with
      | nil => rw [hl] at hne; simp at hne
      | cons i0 r =>
        obtain ⟨hr0, m, rfl, _⟩ := hb i0 (by rw [hl]; exact List.mem_cons_self)
        refine ⟨fun h0 => (by rw [h0] at hr0; cases hr0), fun i hi => ?_⟩
        obtain ⟨_, m', hm', hv⟩ := hb i (by simpa using hall i hi)
        have : m = m' := by omega
        subst this
        exact hv
    · simp only [treeOk, Bool.and_eq_true, Bool.true_or, true_and] at hB
      exact both hB.1 hB.2

/-- the orders of a region. -/
def mkTr (cl : Oper → Cls) (md : Region.Mode) (ops : Array Oper) : Nat → Array Bool → Tr
  | 0, _ => .nil
  | n + 1, listed => match (Region.ready md ops listed).find? fun k => Region.free md ops listed k && ordOk cl md ops listed k with
    | some k => .cons k (mkTr cl md ops n (listed.setIfInBounds k true))
    | none => match Region.ready md ops listed with
      | [] => .nil
      | k :: ks => ks.foldl (fun t j => .fork t (.cons j (mkTr cl md ops n (listed.setIfInBounds j true)))) (.cons k (mkTr cl md ops n (listed.setIfInBounds k true)))

/-- A REGION THAT DRAWS ITS ORDER: a tree of orders serves for all. -/
theorem wp_region_tree {ro : Option Nat} {n : Nat} {id : Nat} {H : Array Bool → Heap → Prop} (hH : Car J cl .any ops H) {Q : Exit → Act → World → Prop} {Q' : Act → Heap → Prop} {a : Act} {w : World} {t : Tr} (hm : P.follows .mixedOrders = true)
    (hn : Region.noSelect ops = true) (hB : treeOk cl .any ops t false ops.size (Array.replicate ops.size false) = true)
    (hQ : ∀ a w', Sane w w' → Q' a w'.heap → Q .normal a w')
    (hI : H (Array.replicate ops.size false) w.heap) (h : vTree P J cl ops Q' t a w.heap) : (Code.region id ops true).wpIn (FW ro) n P Q a w :=
  wpIn_region_any hm (wpAny_of_vAny hH (cl := cl) (Q := Q') (w0 := w) hQ _ _ _ _ (Sane.same rfl) (closed_none _) hI ((vAny_tree hH hn t ops.size _ a _ hI (closed_none _) h).1 hB))

/-- A REGION THAT DRAWS ITS ORDER: the order of the text serves for all. -/
theorem wp_region_lex {ro : Option Nat} {n : Nat} {id : Nat} {Q : Exit → Act → World → Prop} {Q' : Act → Heap → Prop} {a : Act} {w : World} (hm : P.follows .mixedOrders = true) (hB : lexB cl .any ops = true)
    (hQ : ∀ a w', Sane w w' → Q' a w'.heap → Q .normal a w')
    (h : vList P J0 cl ops Q' (List.range ops.size) a w.heap) : (Code.region id ops true).wpIn (FW ro) n P Q a w := by
  simp only [lexB, Bool.and_eq_true] at hB
  refine wpIn_region_any hm (wpAny_of_vAny (J := J0) car0 (cl := cl) (Q := Q') (w0 := w) hQ _ _ _ _ (Sane.same rfl) (closed_none _) trivial ?_)
  rw [List.range_eq_range'] at h
  exact vAny_lex car0 hB.1 ops.size 0 _ a _ trivial (closed_none _) hB.2 h

theorem wp_region_seq {ro : Option Nat} {n : Nat} {id : Nat} {Q : Exit → Act → World → Prop} {Q' : Act → Heap → Prop} {a : Act} {w : World}
    (hQ : ∀ a w', Sane w w' → Q' a w'.heap → Q .normal a w')
    (h : vList P J0 cl ops Q' (List.range ops.size) a w.heap) : (Code.region id ops false).wpIn (FW ro) n P Q a w :=
  wpIn_region (wpOps_of_vList hQ _ _ _ (Sane.refl _) h)
end
end Go.Vc
end

section
namespace Go.Vc
open Go

/- ------------------------------------------------------------------ shapes of values -/

inductive Sc where
  | int (k : IntKind) | bool | str | ptr | slice | map | raw
inductive S1 where
  | sc (s : Sc) | agg (l : List Sc) | big
inductive Sh where
  | one (s : S1) | tup (l : List S1)

def exSc : Sc → (Value → Prop) → Prop
  | .int k, K => ∃ n : Int, K (.int k n)
  | .bool, K => ∃ b : Bool, K (.bool b)
  | .str, K => ∃ s : ByteArray, K (.string s)
  | .ptr, K => ∃ a : Option Addr, K (.pointer a)
  | .slice, K => ∃ (a : Option Addr) (n c : Nat), K (.slice a n c)
  | .map, K => ∃ r : Option Nat, K (.map r)
  | .raw, K => ∃ v : Value, K v
def exScs : List Sc → (List Value → Prop) → Prop
  | [], K => K []
  | s :: l, K => exSc s fun v => exScs l fun vs => K (v :: vs)
def exS1 : S1 → (Value → Prop) → Prop
  | .sc s, K => exSc s K
  | .agg l, K => exScs l fun vs => K (.agg vs.toArray)
  | .big, K => ∃ cs : Array Value, K (.agg cs)
def exS1s : List S1 → (List Value → Prop) → Prop
  | [], K => K []
  | s :: l, K => exS1 s fun v => exS1s l fun vs => K (v :: vs)
def exSh : Sh → (Value → Prop) → Prop
  | .one s, K => exS1 s K
  | .tup l, K => exS1s l fun vs => K (.tuple vs.toArray)

theorem exSc_some : ∀ {s : Sc} {K : Value → Prop}, exSc s K → ∃ v, K v := by
  intro s K h
  cases s <;> simp only [exSc] at h
  case slice => obtain ⟨a, n, c, h⟩ := h; exact ⟨_, h⟩
  all_goals exact let ⟨_, h⟩ := h; ⟨_, h⟩
theorem exScs_some : ∀ {l : List Sc} {K : List Value → Prop}, exScs l K → ∃ v, K v
  | [], _, h => ⟨_, h⟩
  | _ :: _, _, h => let ⟨_, h⟩ := exSc_some h; let ⟨_, h⟩ := exScs_some h; ⟨_, h⟩
theorem exS1_some : ∀ {s : S1} {K : Value → Prop}, exS1 s K → ∃ v, K v
  | .sc _, _, h => exSc_some h
  | .agg _, _, h => let ⟨_, h⟩ := exScs_some h; ⟨_, h⟩
  | .big, _, h => let ⟨_, h⟩ := h; ⟨_, h⟩
theorem exS1s_some : ∀ {l : List S1} {K : List Value → Prop}, exS1s l K → ∃ v, K v
  | [], _, h => ⟨_, h⟩
  | _ :: _, _, h => let ⟨_, h⟩ := exS1_some h; let ⟨_, h⟩ := exS1s_some h; ⟨_, h⟩
theorem exSh_some : ∀ {s : Sh} {K : Value → Prop}, exSh s K → ∃ v, K v
  | .one _, _, h => exS1_some h
  | .tup _, _, h => let ⟨_, h⟩ := exS1s_some h; ⟨_, h⟩

/-- the cells of a type that is small and holds no array; none: it does. -/
def scsOf (P : Program) : Nat → TypeId → Option (List Sc)
  | 0, _ => none
  | n + 1, t => match P.underlying t with
    | some (.int k) => some [.int k]
    | some .bool => some [.bool]
    | some .string => some [.str]
    | some (.pointer _) => some [.ptr]
    | some (.slice _) => some [.slice]
    | some (.map _ _) => some [.map]
    | some (.struct fs) => fs.toList.foldr (fun f acc => match scsOf P n f.type, acc with | some a, some b => some (a ++ b) | _, _ => none) (some [])
    | some (.array _ _) => none
    | _ => some [.raw]
def s1Of (P : Program) (t : TypeId) : S1 :=
  match P.underlying t with
  | some (.struct _) => match scsOf P 8 t with | some l => .agg l | none => .big
  | some (.array _ _) => .big
  | _ => match scsOf P 1 t with | some [s] => .sc s | _ => .sc .raw
def shOf (P : Program) (t : TypeId) : Sh :=
  match P.underlying t with
  | some (.tuple ts) => .tup (ts.toList.map (s1Of P))
  | _ => .one (s1Of P t)
def bigT (P : Program) (t : TypeId) : Bool := match s1Of P t with | .big => true | _ => false
def aggT (P : Program) (t : TypeId) : Bool := match P.underlying t with | some (.struct _) | some (.array _ _) => true | _ => false

/- ------------------------------------------------------------------ the frame -/

abbrev Path := List (Nat × Bool)
abbrev Env := List (Nat × Path × Value)
abbrev Env0 := List (Nat × Value)

def lookG : Env0 → Nat → Option Value
  | [], _ => none
  | (u, v) :: r, t => match Nat.beq u t with | true => some v | false => lookG r t
def lookL : Env → Nat → Option (Path × Value)
  | [], _ => none
  | (u, p, v) :: r, t => match Nat.beq u t with | true => some (p, v) | false => lookL r t
def look (l : Env) (g : Env0) (t : Nat) : Option (Path × Value) :=
  match lookL l t with
  | some x => some x
  | none => match lookG g t with | some v => some ([], v) | none => none
def val (l : Env) (g : Env0) : Operand → Value
  | .tmp t => match look l g t with | some (_, v) => v | none => undef
  | .const v => v
  | .global g => .pointer (some ⟨g, 0, none⟩)
  | .func f => .func (.func f) #[] #[]
def bval (l : Env) (t : Nat) : Bool := match lookL l t with | some (_, .bool b) => b | _ => false
def lit (w b : Bool) : Bool := match w with | true => b | false => !b
def cond (l : Env) : Path → Bool
  | [] => true
  | [(t, w)] => lit w (bval l t)
  | (t, w) :: r => lit w (bval l t) && cond l r
theorem cond_cons (l : Env) (t : Nat) (w : Bool) (r : Path) : cond l ((t, w) :: r) = (lit w (bval l t) && cond l r) := by
  cases r <;> simp [cond]
def gd (l : Env) : Path → Prop → Prop
  | [], X => X
  | p, X => cond l p = true → X
theorem gd_spec {l : Env} {p : Path} {X : Prop} (h : gd l p X) : cond l p = true → X := by
  cases p with
  | nil => exact fun _ => h
  | cons _ _ => exact h
def eqP : Path → Path → Bool
  | [], [] => true
  | (a, b) :: p, (c, d) :: q => Nat.beq a c && (b == d) && eqP p q
  | _, _ => false
def sub (q : Path) : Path → Bool
  | [] => match q with | [] => true | _ => false
  | x :: p => eqP q (x :: p) || sub q p
theorem eqP_eq : ∀ {p q : Path}, eqP p q = true → p = q
  | [], [], _ => rfl
  | (a, b) :: p, (c, d) :: q, h => by
    simp only [eqP, Bool.and_eq_true, beq_iff_eq] at h
    rw [Nat.eq_of_beq_eq_true h.1.1, h.1.2, eqP_eq h.2]
  | [], _ :: _, h => by simp [eqP] at h
  | _ :: _, [], h => by simp [eqP] at h
theorem sub_cond {l : Env} {q : Path} : ∀ {p : Path}, sub q p = true → cond l p = true → cond l q = true
  | [], h, _ => by cases q with | nil => rfl | cons _ _ => simp [sub] at h
  | (t, w) :: p, h, hc => by
    simp only [sub, Bool.or_eq_true] at h
    rcases h with h | h
    · rw [eqP_eq h]; exact hc
    · rw [cond_cons, Bool.and_eq_true] at hc
      exact sub_cond h hc.2

/-- may an operand be read where p holds? -/
def okIn (l : Env) (g : Env0) (p : Path) : Operand → Bool
  | .tmp t => match look l g t with | some (q, _) => sub q p | none => false
  | _ => true
def mapA {α β : Type} (f : α → β) (xs : Array α) : Array β := (xs.toList.map f).toArray
theorem mapA_eq {α β : Type} (f : α → β) (xs : Array α) : mapA f xs = xs.map f := by cases xs; simp [mapA]

/- ------------------------------------------------------------------ operations that touch no memory -/

def kn : IntKind → Nat
  | .i8 => 0 | .i16 => 1 | .i32 => 2 | .i64 => 3 | .u8 => 4 | .u16 => 5 | .u32 => 6 | .u64 => 7
def eqKind (k k' : IntKind) : Bool := Nat.beq (kn k) (kn k')
theorem eqKind_eq {k k' : IntKind} (h : eqKind k k' = true) : k = k' := by
  have := Nat.eq_of_beq_eq_true h
  cases k <;> cases k' <;> first | rfl | (simp [kn] at this)

def binK (op : BinOp) (x y : Value) (G : Prop → Prop) (K : Value → Prop) : Prop :=
  match x, y with
  | .int k a, .int k' b =>
    match op with
    | .shl => G (0 ≤ b) ∧ K (.int k (k.wrap (a * 2 ^ (min b.toNat k.bits))))
    | .shr => G (0 ≤ b) ∧ K (.int k (a.fdiv (2 ^ (min b.toNat k.bits))))
    | _ => match eqKind k k' with
      | false => False
      | true => match op with
        | .add => K (.int k (k.wrap (a + b)))
        | .sub => K (.int k (k.wrap (a - b)))
        | .mul => K (.int k (k.wrap (a * b)))
        | .quo => G (b ≠ 0) ∧ K (.int k (k.wrap (a.tdiv b)))
        | .rem => G (b ≠ 0) ∧ K (.int k (a.tmod b))
        | .and => K (.int k (k.wrap (BitVec.ofInt k.bits a &&& BitVec.ofInt k.bits b).toNat))
        | .or => K (.int k (k.wrap (BitVec.ofInt k.bits a ||| BitVec.ofInt k.bits b).toNat))
        | .xor => K (.int k (k.wrap (BitVec.ofInt k.bits a ^^^ BitVec.ofInt k.bits b).toNat))
        | .andNot => K (.int k (k.wrap (BitVec.ofInt k.bits a &&& ~~~BitVec.ofInt k.bits b).toNat))
        | .eql => K (.bool (a == b))
        | .neq => K (.bool (a != b))
        | .lss => K (.bool (decide (a < b)))
        | .leq => K (.bool (decide (a ≤ b)))
        | .gtr => K (.bool (decide (a > b)))
        | .geq => K (.bool (decide (a ≥ b)))
        | _ => False
  | .string a, .string b =>
    match op with
    | .add => G (((a.size + b.size : Nat) : Int) ≤ IntKind.i64.max) ∧ K (.string (a ++ b))
    | .eql => K (.bool (a.toList == b.toList))
    | .neq => K (.bool !(a.toList == b.toList))
    | .lss => K (.bool (Op.bytesLess a.toList b.toList))
    | .leq => K (.bool (Op.bytesLess a.toList b.toList || a.toList == b.toList))
    | .gtr => K (.bool !(Op.bytesLess a.toList b.toList || a.toList == b.toList))
    | .geq => K (.bool !Op.bytesLess a.toList b.toList)
    | _ => False
  | _, _ => False

def byteAt (s : ByteArray) (i : Int) : Int := (s.data.getD i.toNat 0).toNat

def lowOf (x : Option Value) : Option Int := match x with | none => some 0 | some (.int _ i) => some i | _ => none
def highOf (n : Nat) (x : Option Value) : Option Int := match x with | none => some n | some (.int _ i) => some i | _ => none

/-- where a slice of a slice begins. -/
def subA (a : Option Addr) (l m size : Nat) : Option Addr := if m = l then a else a.map (·.add (l * size))

def szOf (P : Program) (t : TypeId) : Option Nat := (P.info? t).map (·.size)

def sliceK (P : Program) (t : TypeId) (x : Value) (lo hi mx : Option Value) (G : Prop → Prop) (K : Value → Prop) : Prop :=
  match mx.isSome && hi.isNone with
  | true => False
  | false =>
  match P.underlying t, x with
  | some .string, .string s =>
    match mx with
    | some _ => False
    | none => match lowOf lo, highOf s.size hi with
      | some l, some h => G (0 ≤ l ∧ l ≤ h ∧ h ≤ s.size) ∧ K (.string (s.extract l.toNat h.toNat))
      | _, _ => False
  | some (.slice e), .slice a n c =>
    match szOf P e, lowOf lo, highOf n hi, highOf c mx, lo with
    | some _, some _, some h, some m, none => G (0 ≤ h ∧ h ≤ m ∧ m ≤ c) ∧ K (.slice a h.toNat m.toNat)
    | some sz, some l, some h, some m, some _ => G (0 ≤ l ∧ l ≤ h ∧ h ≤ m ∧ m ≤ c) ∧ K (.slice (subA a l.toNat m.toNat sz) (h.toNat - l.toNat) (m.toNat - l.toNat))
    | _, _, _, _, _ => False
  | some (.array n e), .pointer (some a) =>
    match szOf P e, lowOf lo, highOf n hi, highOf n mx with
    | some sz, some l, some h, some m => G (0 ≤ l ∧ l ≤ h ∧ h ≤ m ∧ m ≤ n) ∧ K (.slice (subA (some a) l.toNat m.toNat sz) (h.toNat - l.toNat) (m.toNat - l.toNat))
    | _, _, _, _ => False
  | _, _ => False

/-- a part of a struct or an array. -/
def partK (P : Program) (t : TypeId) (cs : Array Value) (off : Nat) (big : Bool) (G : Prop → Prop) (K : Value → Prop) : Prop :=
  match szOf P t, aggT P t, P.underlying t with
  | some sz, true, some _ => match big with
    | true => K (.agg (cs.extract off (off + sz)))
    | false => K (.agg ((cs.toList.drop off).take sz).toArray)
  | some _, false, some _ => match big with
    | true => exS1 (s1Of P t) fun v => G (cs[off]? = some v) ∧ K v
    | false => match cs.toList[off]? with | some v => K v | none => False
  | _, _, _ => False

/-- cells written into a row, from a place on. -/
def putL : List Value → Nat → List Value → List Value
  | cs, _, [] => cs
  | cs, off, v :: vs => putL (cs.set off v) (off + 1) vs
def fillL (place : Nat → Option (Nat × Nat)) (cells : List Value) : List (Nat × Value) → Option (List Value)
  | [] => some cells
  | (i, v) :: rest => match place i with
    | none => none
    | some (off, size) => match Nat.beq v.cells.toList.length size && Nat.ble (off + v.cells.toList.length) cells.length with
      | true => fillL place (putL cells off v.cells.toList) rest
      | false => none
def placesOf (P : Program) : List Field → Option (List (Nat × Nat))
  | [] => some []
  | f :: fs => match szOf P f.type, placesOf P fs with | some n, some l => some ((f.offset, n) :: l) | _, _ => none
def builtL (P : Program) (t : TypeId) (parts : List (Nat × Value)) : Option (List Value) :=
  match (P.info? t).bind (·.zero), P.underlying t with
  | some z, some (.struct fs) => match placesOf P fs.toList with
    | some pl => fillL (pl[·]?) z.cells.toList parts
    | none => none
  | some z, some (.array _ e) => match szOf P e with
    | some sz => fillL (fun i => some (i * sz, sz)) z.cells.toList parts
    | none => none
  | _, _ => none
def partsL (ρ : Operand → Value) : List (Nat × Operand) → List (Nat × Value)
  | [] => []
  | (i, x) :: l => (i, ρ x) :: partsL ρ l

/-- a value is built of parts (a structure: so that no reckoning lays its cells out). -/
structure Blt (P : Program) (t : TypeId) (parts : List (Nat × Value)) (cs : Array Value) : Prop where
  eq : P.built t parts = some cs
def pureK (P : Program) (o : Oper) (ρ : Operand → Value) (G : Prop → Prop) (K : Value → Prop) : Prop :=
  match o.op with
  | .move x | .assign x => K (ρ x)
  | .pick c a b => match ρ c, ρ a, ρ b with
    | .bool x, .bool y, .bool z => K (.bool (Bool.rec z y x))
    | _, _, _ => False
  | .nilCheck x => match ρ x with
    | .pointer a => ∃ p, G (a = some p) ∧ K (.pointer (some p))
    | .iface t v => K (.iface t v)
    | .func (.func f) a b => K (.func (.func f) a b)
    | _ => False
  | .binOp op _ x y _ => binK op (ρ x) (ρ y) G K
  | .unOp op _ x => match op, ρ x with
    | .not, .bool b => K (.bool !b)
    | .neg, .int k n => K (.int k (k.wrap (0 - n)))
    | .xor, .int k n => K (.int k (k.wrap (BitVec.ofInt k.bits (match k.signed with | true => -1 | false => k.max) ^^^ BitVec.ofInt k.bits n).toNat))
    | _, _ => False
  | .convert s d x => match P.underlying s, P.underlying d, ρ x with
    | some (.int _), some (.int k), .int _ n => K (.int k (k.wrap n))
    | some .string, some .string, .string b => K (.string b)
    | _, _, _ => False
  | .makeInterface t x => match P.underlying t with
    | some (.interface _) => False
    | some _ => K (.iface t (ρ x))
    | none => False
  | .makeFunc fn first captured => K (.func fn (mapA ρ first) (mapA ρ captured))
  | .fieldAddr s x f => match P.underlying s, ρ x with
    | some (.struct fs), .pointer (some a) => match fs[f]? with
      | some fd => match szOf P fd.type with
        | some (_ + 1) => K (.pointer (some (a.add fd.offset)))
        | _ => False
      | none => False
    | _, _ => False
  | .indexAddr t x ix => match P.underlying t, ρ x, ρ ix with
    | some (.slice e), .slice base n _, .int _ i => match szOf P e with
      | some sz => ∃ p, G (base = some p ∧ 0 ≤ i ∧ i < n) ∧ K (.pointer (some (p.add (i.toNat * sz))))
      | none => False
    | some (.array n e), .pointer (some a), .int _ i => match szOf P e with
      | some sz => G (0 ≤ i ∧ i < n) ∧ K (.pointer (some (a.add (i.toNat * sz))))
      | none => False
    | _, _, _ => False
  | .index t x ix => match P.underlying t, ρ x, ρ ix with
    | some .string, .string s, .int _ i => G (0 ≤ i ∧ i < s.size) ∧ K (.int .u8 (byteAt s i))
    | some (.array n e), .agg cs, .int _ i => match szOf P e with
      | some sz => G (0 ≤ i ∧ i < n) ∧ partK P e cs (i.toNat * sz) true G K
      | none => False
    | _, _, _ => False
  | .slice t x lo hi mx => sliceK P t (ρ x) (lo.map ρ) (hi.map ρ) (mx.map ρ) G K
  | .field t x f => match P.underlying t, ρ x with
    | some (.struct fs), .agg cs => match fs[f]? with
      | some fd => partK P fd.type cs fd.offset (bigT P t) G K
      | none => False
    | _, _ => False
  | .extract x i => match ρ x with
    | .tuple vs => match vs[i]? with | some v => K v | none => False
    | _ => False
  | .build t parts => match bigT P t with
    | true => ∃ cs, G (Blt P t (partsL ρ parts.toList) cs) ∧ K (.agg cs)
    | false => match builtL P t (partsL ρ parts.toList) with | some cs => K (.agg cs.toArray) | none => False
  | .call { callee := .builtin .len, args, argTypes } => match (argTypes[0]?).bind P.underlying, (args[0]?).map ρ with
    | some .string, some (.string s) => K (.int .i64 s.size)
    | some (.slice _), some (.slice _ n _) => K (.int .i64 n)
    | some (.array n _), some _ => K (.int .i64 n)
    | _, _ => False
  | .call { callee := .builtin .cap, args, argTypes } => match (argTypes[0]?).bind P.underlying, (args[0]?).map ρ with
    | some (.slice _), some (.slice _ _ c) => K (.int .i64 c)
    | _, _ => False
  | _ => False

/-- which operations are taken for which class. -/
def clsOf (P : Program) (o : Oper) : Cls :=
  match o.op with
  | .move _ | .assign _ | .pick .. | .nilCheck _ | .unOp .. | .makeInterface .. | .makeFunc .. | .fieldAddr .. | .indexAddr .. | .index .. | .slice ..
  | .field .. | .extract .. | .build .. => .pure
  | .binOp _ t _ _ _ => match P.underlying t with
    | some (.int _) | some .string => .pure
    | _ => .read
  | .convert s d _ => match P.underlying s, P.underlying d with
    | some (.int _), some (.int _) => .pure
    | some .string, some .string => .pure
    | some (.slice _), some .string => .read
    | _, _ => .eff
  | .load .. | .lookup .. | .ready _ | .waits _ | .entry _ | .typeAssert .. | .sliceToArrayPointer .. => .read
  | .call { callee := .builtin .len, argTypes, .. } => match (argTypes[0]?).bind P.underlying with
    | some .string | some (.slice _) | some (.array _ _) => .pure
    | _ => .read
  | .call { callee := .builtin .cap, .. } => .pure
  | .call { callee := .builtin .min, .. } | .call { callee := .builtin .max, .. } => .read
  | _ => .eff

/-- a comparison of whatever kind. -/
def eqSem (op : BinOp) (t : TypeId) (x y : Operand) (a b : Value) : Sem Value := do eqGuard op t x y a b; binOp op t a b

/-- an operation that only looks. -/
def semR (o : Oper) (ρ : Operand → Value) : Option (Sem Value) :=
  match o.op with
  | .binOp op t x y _ => some (eqSem op t x y (ρ x) (ρ y))
  | .convert s d x => some (convert s d (ρ x))
  | .load t a => some (Instr.loadAt t (ρ a))
  | .lookup t x ix ok => some (Instr.lookup t (ρ x) (ρ ix) ok)
  | .waits g => some (Instr.waits g)
  | .entry it => some (Instr.entry (ρ it))
  | .typeAssert x t u ok => some (Instr.typeAssert (ρ x) t u ok)
  | .call { callee := .builtin .len, args, argTypes } => some (Builtin.len_ argTypes o.type (mapA ρ args))
  | .call { callee := .builtin .min, args, argTypes } => some (Builtin.min_ argTypes o.type (mapA ρ args))
  | .call { callee := .builtin .max, args, argTypes } => some (Builtin.max_ argTypes o.type (mapA ρ args))
  | _ => none
def tyR (o : Oper) : TypeId := match o.op with | .load t _ => t | _ => o.type

def readK (P : Program) (sh : Sh) (o : Oper) (ρ : Operand → Value) (h : Heap) (G : Prop → Prop) (K : Value → Prop) : Prop :=
  match o.op with
  | .ready g => G (Reads P (Instr.ready g) h ()) ∧ K undef
  | _ => match semR o ρ with
    | some s => exSh sh fun v => G (Reads P s h v) ∧ K v
    | none => False
/-- the shape of what a look yields: of a map's entry, by what is taken of it. -/
def entS (P : Program) (d : Option Tmp) (i : Nat) : List Oper → S1
  | [] => .sc .raw
  | o :: l => match o.op, d with
    | .extract (.tmp t) j, some d => match Nat.beq t d && Nat.beq j i with | true => s1Of P o.type | false => entS P (some d) i l
    | _, d => entS P d i l
def shR (P : Program) (ops : Array Oper) (o : Oper) : Sh := match o.op with
  | .entry _ => .tup [entS P o.dst 0 ops.toList, entS P o.dst 1 ops.toList]
  | _ => shOf P (tyR o)

/- ------------------------------------------------------------------ operations that do something -/

def semE (o : Oper) (ρ : Operand → Value) : Option (Sem Value) :=
  match o.op with
  | .alloc e => some (Instr.alloc e true (.tuple #[]))
  | .box e x => some (Instr.box e (ρ x))
  | .buildSlice t n parts => some (Instr.buildSlice t n (partsL ρ parts.toList).toArray)
  | .convert s d x => some (convert s d (ρ x))
  | .makeMap t r => some (Instr.makeMap t (r.map ρ))
  | .makeSlice t l c => some (Instr.makeSlice t (ρ l) (ρ c))
  | .mapEntry t m k => some (Instr.mapEntry t (ρ m) (ρ k))
  | .range t x => some (Instr.range t (ρ x))
  | .next it s => some (Instr.next (ρ it) s o.type)
  | .call { callee := .builtin .append, args, argTypes } => some (Builtin.append_ argTypes o.type (mapA ρ args))
  | .call { callee := .builtin .copy, args, argTypes } => some (Builtin.copy_ argTypes o.type (mapA ρ args))
  | .call { callee := .builtin .delete, args, argTypes } => some (Builtin.delete_ argTypes o.type (mapA ρ args))
  | .call { callee := .builtin .clear, args, argTypes } => some (Builtin.clear_ argTypes o.type (mapA ρ args))
  | _ => none
def semU (o : Oper) (ρ : Operand → Value) : Option (Sem Unit) :=
  match o.op with
  | .store t a x => some (Instr.storeAt t (ρ a) (ρ x))
  | .mapUpdate t m k x | .insert t m k x => some (Instr.mapUpdate t (ρ m) (ρ k) (ρ x))
  | .entryStore t m s x => some (Instr.entryStore t (ρ m) (ρ s) (ρ x))
  | _ => none

/-- can a function be entered? -/
def fnOk (P : Program) (f : FuncId) : Bool :=
  match P.funcs[f]? with
  | some fn => !(fn.name == "runtime.NumGoroutine") && fn.body.isSome
  | none => false

/-- the shape of what such an operation yields. -/
def shE (P : Program) (o : Oper) : Sh := match o.op with
  | .alloc _ | .box _ _ | .range _ _ => .one (.sc .ptr)
  | _ => shOf P o.type

/-- the cells of a type's zero value. -/
def zc (P : Program) (e : TypeId) : Array Value := match (P.info? e).bind (·.zero) with | some z => z.cells | none => #[]
def hasZ (P : Program) (e : TypeId) : Bool := ((P.info? e).bind (·.zero)).isSome

/-- a method of what an interface value holds: which function it is, and of what. -/
structure Meth (P : Program) (v : Value) (name : String) (f : FuncId) (r : Value) : Prop where
  run : ∀ (w : World) (args : Array Value), (callMethod v name args).run P w = .ok (.enter f (#[r] ++ args)) w
def effK0 (P : Program) (o : Oper) (ρ : Operand → Value) (h : Heap) (K : Value → Heap → Prop) : Prop :=
  match semE o ρ with
  | some s => SVC P s h fun v h' => exSh (shE P o) fun v' => v = v' ∧ K v' h'
  | none => match semU o ρ with
    | some s => SVC P s h fun _ h' => K undef h'
    | none => match o.op with
      | .call { callee := .value f, args, .. } => match ρ f with
        | .func (.func f) first captured => match fnOk P f with
          | true => HC P f (first ++ mapA ρ args ++ captured) h fun v h' => exSh (shOf P o.type) fun v' => v = v' ∧ K v' h'
          | false => False
        | _ => False
      | .call { callee := .invoke x name, args, .. } => ∃ (f : Nat) (r : Value), Meth P (ρ x) name f r ∧
          HC P f (#[r] ++ mapA ρ args) h fun v h' => exSh (shOf P o.type) fun v' => v = v' ∧ K v' h'
      | _ => False
/-- the cells of the zero value of a type that holds a row (a structure: so that no reckoning lays them out). -/
structure IsZ (P : Program) (e : TypeId) (cs : Array Value) : Prop where
  eq : cs = zc P e
def effK (P : Program) (o : Oper) (ρ : Operand → Value) (h : Heap) (K : Value → Heap → Prop) : Prop :=
  match o.op with
  | .alloc e => match hasZ P e with
    | true => match bigT P e with
      | true => ∃ z : Array Value, IsZ P e z ∧ K (.pointer (some ⟨h.size, 0, none⟩)) (h.push (.cells z e (0, 0)))
      | false => K (.pointer (some ⟨h.size, 0, none⟩)) (h.push (.cells (zc P e) e (0, 0)))
    | false => False
  | .next it s => SVC P (Instr.next (ρ it) s o.type) h fun v h' => (v = .tuple #[.bool false] ∧ K (.tuple #[.bool false]) h') ∨ match s with
    | true => ∃ i r : Int, v = .tuple #[.bool true, .int .i64 i, .int .i32 r] ∧ K (.tuple #[.bool true, .int .i64 i, .int .i32 r]) h'
    | false => ∃ k x : Value, v = .tuple #[.bool true, k, x] ∧ K (.tuple #[.bool true, k, x]) h'
  | .box e x => K (.pointer (some ⟨h.size, 0, none⟩)) (h.push (.cells (ρ x).cells e (0, 0)))
  | .makeMap _ none => K (.map (some h.size)) (h.push (.map #[] 0))
  | _ => effK0 P o ρ h K

/- ------------------------------------------------------------------ a region -/

def br (b : Bool) (A B : Prop) : Prop := match b with | true => A | false => B
theorem br_intro {b : Bool} {A B : Prop} (ha : b = true → A) (hb : b = false → B) : br b A B := by
  cases b
  · exact hb rfl
  · exact ha rfl
theorem br_elim {b : Bool} {A B : Prop} (h : br b A B) : (b = true → A) ∧ (b = false → B) := by
  cases b
  · exact ⟨fun e => (by cases e), fun _ => h⟩
  · exact ⟨fun _ => h, fun e => (by cases e)⟩

def noKey (l : Env) (d : Nat) : Bool := match l with | [] => true | (u, _, _) :: r => match Nat.beq u d with | true => false | false => noKey r d
def isDead (D : List Path) (p : Path) : Bool := match D with | [] => false | q :: r => sub q p || isDead r p

/-- write a slot: its number is in range, and it is new in the region. -/
def wr (n : Nat) (l : Env) (p : Path) (dst : Option Tmp) (v : Value) (K : Env → Prop) : Prop :=
  match dst with
  | none => K l
  | some d => match Nat.blt d n && noKey l d with
    | true => K ((d, p, v) :: l)
    | false => False

def splitK (l : Env) (D : List Path) : Path → (Env → List Path → Prop) → (Env → List Path → Prop) → Prop
  | [], A, _ => A l D
  | (t, w) :: r, A, B => splitK l D r (fun l D => br (lit w (bval l t)) (A ((t, r, .bool w) :: l) (((t, !w) :: r) :: D)) (B ((t, r, .bool !w) :: l) (((t, w) :: r) :: D))) B

/-- the path of an operation, by its guard. -/
def pathOf (ops : Array Oper) (l : Env) (D : List Path) (o : Oper) : Option Path :=
  match o.guard with
  | none => some []
  | some (j, w) => match (ops[j]?).bind (·.dst) with
    | none => none
    | some t => match lookL l t with
      | some (r, .bool _) => some ((t, w) :: r)
      | some (r, _) => match isDead D r with | true => some r | false => none
      | none => none

def pickDead (l : Env) (D : List Path) (x : Operand) : Bool :=
  match x with
  | .tmp t => match lookL l t with | some (p, _) => isDead D p | none => false
  | _ => false
def okPick (l : Env) (g : Env0) (p : Path) (c : Operand) (w : Bool) (x : Operand) : Bool :=
  okIn l g p x || match c with
    | .tmp t => (lookL l t).isSome && okIn l g ((t, w) :: p) x
    | _ => false

def pickK (l : Env) (g : Env0) (D : List Path) (p : Path) (c a b : Operand) (K : Value → Prop) : Prop :=
  match okIn l g p c with
  | false => False
  | true => match okPick l g p c true a, okPick l g p c false b with
    | true, true => match pickDead l D a with
      | true => match val l g c, val l g b with | .bool false, .bool z => K (.bool z) | _, _ => False
      | false => match pickDead l D b with
        | true => match val l g c, val l g a with | .bool true, .bool y => K (.bool y) | _, _ => False
        | false => match val l g c, val l g a, val l g b with
          | .bool x, .bool y, .bool z => K (.bool (Bool.rec z y x))
          | _, _, _ => False
    | _, _ => False

/-- the values of an operation's slots, told one by one (so that each is a value, and no longer a question to the frame). -/
def withRho (l : Env) (g : Env0) (p : Path) : List Operand → (Env0 → Prop) → Prop
  | [], K => K []
  | .tmp t :: ts, K => match look l g t with
    | some (q, v) => match sub q p with
      | true => withRho l g p ts fun e => K ((t, v) :: e)
      | false => False
    | none => False
  | _ :: ts, K => withRho l g p ts K
def moveK (l : Env) (g : Env0) (p : Path) (x : Operand) (K : Value → Prop) : Prop :=
  match x with
  | .tmp t => match look l g t with
    | some (q, v) => match sub q p with
      | true => K v
      | false => False
    | none => False
  | .const v => K v
  | .global g => K (.pointer (some ⟨g, 0, none⟩))
  | .func f => K (.func (.func f) #[] #[])

/-- reads that may come on either side of what does something: their value must follow from an invariant of the region. -/
def isSt (st : List Nat) (o : Oper) : Bool := match o.dst with | some d => st.contains d | none => false
/-- a text made of bytes: such a read is told as an effect where it may come on either side of one. -/
def isCv (o : Oper) : Bool := match o.op with | .convert .. => true | _ => false
def clsS (P : Program) (st : List Nat) (o : Oper) : Cls := match clsOf P o, isSt st o with
  | .read, true => match isCv o with | true => .eff | false => .pure
  | c, _ => c
def stI (st : List Nat) (ops : Array Oper) (i : Nat) : Bool := match ops[i]? with | some o => isSt st o | none => false
/-- does an operation come behind all such reads? -/
def finB (st : List Nat) (ops : Array Oper) (k : Nat) : Bool :=
  (List.range ops.size).all fun j => match stI st ops j with | true => dep .any ops j ops.size k | false => true
/-- what a region asks of heaps: nothing, one word for all such reads, or a word for each. -/
inductive Ivs where
  | no
  | one (I : Heap → Prop)
  | fam (F : Nat → Heap → Prop)
/-- the reads that may come behind an operation. -/
def behB (st : List Nat) (ops : Array Oper) (k : Nat) : List Nat := (List.range ops.size).filter fun j => match stI st ops j with | true => !dep .any ops j ops.size k | false => false
def stL (st : List Nat) (ops : Array Oper) : List Nat := (List.range ops.size).filter fun j => stI st ops j
def famAnd (F : Nat → Heap → Prop) (h : Heap) (X : Prop) : List Nat → Prop
  | [] => X
  | j :: js => F j h ∧ famAnd F h X js
/-- are rows written where such reads may still come? -/
def famB (st : List Nat) (ops : Array Oper) : Bool := (List.range ops.size).any fun k => match ops[k]? with
  | some o => match o.op with
    | .store .. => !finB st ops k
    | _ => false
  | none => false
def ivP (iv : Ivs) (st : List Nat) (ops : Array Oper) : Inv2 := match iv with
  | .one I => ⟨fun i h => stI st ops i = true → I h, fun i h => finB st ops i = false → I h⟩
  | .fam F => ⟨fun i h => stI st ops i = true → F i h, fun k h => ∀ j ∈ behB st ops k, F j h⟩
  | .no => J0
def andI (iv : Ivs) (st : List Nat) (ops : Array Oper) (k : Nat) (h : Heap) (X : Prop) : Prop := match iv with
  | .one I => match finB st ops k with | false => I h ∧ X | true => X
  | .fam F => famAnd F h X (behB st ops k)
  | .no => X
def sreadK (P : Program) (o : Oper) (ρ : Operand → Value) (iv : Ivs) (k : Nat) (G : Prop → Prop) (K : Value → Prop) : Prop :=
  match iv with
  | .no => False
  | .one I => match semR o ρ with
    | some s => exSh (shOf P (tyR o)) fun v => G (∀ h', I h' → Reads P s h' v) ∧ K v
    | none => False
  | .fam F => match semR o ρ with
    | some s => exSh (shOf P (tyR o)) fun v => G (∀ h', F k h' → Reads P s h' v) ∧ K v
    | none => False

def cvK (P : Program) (o : Oper) (ρ : Operand → Value) (h : Heap) (K : Value → Prop) : Prop := match o.op with
  | .convert s d x => exSh (shOf P (tyR o)) fun v => Reads P (convert s d (ρ x)) h v ∧ K v
  | _ => False
def vcOps (P : Program) (iv : Ivs) (st : List Nat) (n : Nat) (ops : Array Oper) (g : Env0) : Tr → Env → List Path → Heap → (Env → Heap → Prop) → Prop
  | .nil, l, _, h, K => K l h
  | .fork t u, l, D, h, K => vcOps P iv st n ops g t l D h K ∧ vcOps P iv st n ops g u l D h K
  | .cons k rest, l, D, h, K => match ops[k]? with
    | none => False
    | some o => match pathOf ops l D o with
      | none => False
      | some p => match isDead D p with
        | true => wr n l p o.dst undef fun l => vcOps P iv st n ops g rest l D h K
        | false => match o.op with
          | .pick c a b => pickK l g D p c a b fun v => wr n l p o.dst v fun l => vcOps P iv st n ops g rest l D h K
          | .move x => moveK l g p x fun v => wr n l p o.dst v fun l => vcOps P iv st n ops g rest l D h K
          | .assign x => moveK l g p x fun v => wr n l p o.dst v fun l => vcOps P iv st n ops g rest l D h K
          | op => match clsOf P o with
            | .pure => withRho l g p op.operands.toList fun e => pureK P o (val [] e) (gd l p) fun v => wr n l p o.dst v fun l => vcOps P iv st n ops g rest l D h K
            | .read => match isSt st o with
              | false => withRho l g p op.operands.toList fun e => readK P (shR P ops o) o (val [] e) h (gd l p) fun v => wr n l p o.dst v fun l => vcOps P iv st n ops g rest l D h K
              | true => match isCv o with
                | true => splitK l D p
                  (fun l D => withRho l g p op.operands.toList fun e => cvK P o (val [] e) h fun v => andI iv st ops k h (wr n l p o.dst v fun l => vcOps P iv st n ops g rest l D h K))
                  (fun l D => wr n l p o.dst undef fun l => vcOps P iv st n ops g rest l D h K)
                | false => withRho l g p op.operands.toList fun e => sreadK P o (val [] e) iv k (gd l p) fun v => wr n l p o.dst v fun l => vcOps P iv st n ops g rest l D h K
            | .eff => splitK l D p
              (fun l D => withRho l g p op.operands.toList fun e => effK P o (val [] e) h fun v h => andI iv st ops k h (wr n l p o.dst v fun l => vcOps P iv st n ops g rest l D h K))
              (fun l D => wr n l p o.dst undef fun l => vcOps P iv st n ops g rest l D h K)

/-- the reads of a region that may come on either side of an operation that does something. -/
def stS (P : Program) (ops : Array Oper) : List Nat :=
  (List.range ops.size).filterMap fun k => match ops[k]? with
    | none => none
    | some o => match clsOf P o with
      | .read => match (List.range ops.size).all fun j => match ops[j]? with
          | some oj => match clsOf P oj with | .eff => dep .any ops k ops.size j || dep .any ops j ops.size k | _ => true
          | none => true with
        | true => none
        | false => o.dst
      | _ => none

def delG (t : Nat) : Env0 → Env0
  | [] => []
  | (u, v) :: g => match Nat.beq u t with | true => delG t g | false => (u, v) :: delG t g
def merge : Env → Env0 → Env0
  | [], g => g
  | (t, [], v) :: l, g => (t, v) :: merge l g
  | (t, _ :: _, _) :: l, g => delG t (merge l g)
end Go.Vc
end

section
set_option linter.unusedSimpArgs false
namespace Go.Vc
open Go

theorem run_szOf {P : Program} {t : TypeId} {n : Nat} (h : szOf P t = some n) (w : World) : (sizeOf t).run P w = .ok n w := by
  unfold szOf at h
  cases hi : P.info? t with
  | none => simp [hi] at h
  | some i => simp [hi] at h; subst h; simp [sizeOf, typeInfo, hi]

theorem Addr.add_zero (a : Addr) : a.add 0 = a := by simp [Addr.add]

theorem partK_sound {P : Program} {t : TypeId} {cs : Array Value} {off : Nat} {big : Bool} {c : Bool} {G : Prop → Prop} {K : Value → Prop}
    (hG : ∀ X, G X → (c = true → X)) (h : partK P t cs off big G K) : ∃ v, (c = true → ∀ w, (part t cs off).run P w = .ok v w) ∧ K v := by
  unfold partK at h
  cases hs : szOf P t with
  | none => simp [hs] at h
  | some sz =>
    cases hu : P.underlying t with
    | none => simp [hs, hu] at h
    | some d =>
      cases ha : aggT P t with
      | true =>
        simp only [hs, ha, hu] at h
        have hag : ∀ w, (isAgg t).run P w = .ok true w := fun w => by
          unfold aggT at ha; rw [hu] at ha
          cases d <;> simp_all [isAgg, run_underlying hu]
        cases big with
        | true => exact ⟨_, fun _ w => by simp [part, hag, run_szOf hs], h⟩
        | false =>
          refine ⟨_, fun _ w => ?_, h⟩
          have : cs.extract off (off + sz) = ((cs.toList.drop off).take sz).toArray := by
            apply Array.toList_inj.1
            rw [Array.toList_extract, List.extract_eq_take_drop]
            congr 1; omega
          simp [part, hag, run_szOf hs, this]
      | false =>
        simp only [hs, ha, hu] at h
        have hag : ∀ w, (isAgg t).run P w = .ok false w := fun w => by
          unfold aggT at ha; rw [hu] at ha
          cases d <;> simp_all [isAgg, run_underlying hu]
        cases big with
        | true =>
          obtain ⟨v, hv, hk⟩ := exS1_some h
          refine ⟨v, fun hc w => ?_, hk⟩
          have := hG _ hv hc
          simp [part, hag, this]
        | false =>
          (try simp only at h)
          cases hx : cs.toList[off]? with
          | none => simp [hx] at h
          | some v =>
            simp only [hx] at h
            rw [Array.getElem?_toList] at hx
            exact ⟨v, fun _ w => by simp [part, hag, hx], h⟩

theorem bin_plain {P : Program} {op : BinOp} {t : TypeId} {x y : Operand} {a b : Value} {w : World} (ha : ∀ e, a ≠ .nilIface ∧ a ≠ .agg e) :
    (eqGuard op t x y a b).run P w = .ok () w := by
  cases op <;> first
    | rfl
    | (cases a <;> first
        | exact absurd rfl (ha #[]).1
        | exact absurd rfl (ha _).2
        | rfl)

theorem binK_sound {P : Program} {op : BinOp} {t : TypeId} {x y : Operand} {a b : Value} {c : Bool} {G : Prop → Prop} {K : Value → Prop}
    (hG : ∀ X, G X → (c = true → X)) (h : binK op a b G K) :
    ∃ v, (c = true → ∀ w, (do eqGuard op t x y a b; binOp op t a b : Sem Value).run P w = .ok v w) ∧ K v := by
  cases a with
  | int k a =>
    cases b with
    | int k' b =>
      have hg : ∀ w, (eqGuard op t x y (.int k a) (.int k' b)).run P w = .ok () w := fun w => bin_plain (fun _ => by simp)
      cases hek : eqKind k k' with
      | true =>
        obtain rfl := eqKind_eq hek
        cases op <;> simp only [binK, hek] at h
        case quo => obtain ⟨g, h⟩ := h; exact ⟨_, fun hc w => by have := hG _ g hc; simp [hg, binOp, Op.intDiv, this], h⟩
        case rem => obtain ⟨g, h⟩ := h; exact ⟨_, fun hc w => by have := hG _ g hc; simp [hg, binOp, Op.intDiv, this], h⟩
        case shl =>
          obtain ⟨g, h⟩ := h
          exact ⟨_, fun hc w => by
            have := hG _ g hc
            simp [hg, binOp, Op.shift, show ¬ b < 0 by omega], h⟩
        case shr =>
          obtain ⟨g, h⟩ := h
          exact ⟨_, fun hc w => by
            have := hG _ g hc
            simp [hg, binOp, Op.shift, show ¬ b < 0 by omega], h⟩
        all_goals exact ⟨_, fun hc w => by simp [hg, binOp, Op.intArith, Op.intBits, Op.intCmp], h⟩
      | false =>
        cases op <;> simp only [binK, hek] at h
        case shl =>
          obtain ⟨g, h⟩ := h
          exact ⟨_, fun hc w => by
            have := hG _ g hc
            simp [hg, binOp, Op.shift, show ¬ b < 0 by omega], h⟩
        case shr =>
          obtain ⟨g, h⟩ := h
          exact ⟨_, fun hc w => by
            have := hG _ g hc
            simp [hg, binOp, Op.shift, show ¬ b < 0 by omega], h⟩
    | _ => simp [binK] at h
  | string a =>
    cases b with
    | string b =>
      have hg : ∀ w, (eqGuard op t x y (.string a) (.string b)).run P w = .ok () w := fun w => bin_plain (fun _ => by simp)
      cases op <;> simp only [binK] at h
      case add =>
        obtain ⟨g, h⟩ := h
        exact ⟨_, fun hc w => by
          have := hG _ g hc
          simp only [Sem.run_bind, hg, Result.andThen_ok, binOp, Op.stringOp]
          rw [if_neg (by omega)]; simp, h⟩
      all_goals exact ⟨_, fun hc w => by simp [hg, binOp, Op.stringOp], h⟩
    | _ => simp [binK] at h
  | _ => simp [binK] at h

theorem sliceBounds_run {P : Program} {w : World} {isS : Bool} {n c : Nat} {lo hi mx : Option Value} {l h m : Int}
    (hl : lowOf lo = some l) (hh : highOf n hi = some h) (hm : highOf c mx = some m) (hb : 0 ≤ l ∧ l ≤ h ∧ h ≤ m ∧ m ≤ c)
    (hx : (mx.isSome && hi.isNone) = false) :
    (Instr.sliceBounds isS n c lo hi mx).run P w = .ok (l.toNat, h.toNat, m.toNat) w := by
  obtain ⟨b1, b2, b3, b4⟩ := hb
  have lows : lo = none ∧ l = 0 ∨ ∃ k, lo = some (.int k l) := by
    cases lo with
    | none => simp [lowOf] at hl; exact .inl ⟨rfl, hl.symm⟩
    | some v => cases v <;> simp [lowOf] at hl; subst hl; exact .inr ⟨_, rfl⟩
  have highs : hi = none ∧ h = n ∨ ∃ k, hi = some (.int k h) := by
    cases hi with
    | none => simp [highOf] at hh; exact .inl ⟨rfl, hh.symm⟩
    | some v => cases v <;> simp [highOf] at hh; subst hh; exact .inr ⟨_, rfl⟩
  have maxs : mx = none ∧ m = c ∨ ∃ k, mx = some (.int k m) := by
    cases mx with
    | none => simp [highOf] at hm; exact .inl ⟨rfl, hm.symm⟩
    | some v => cases v <;> simp [highOf] at hm; subst hm; exact .inr ⟨_, rfl⟩
  have sb : ∀ (k : IntKind) (i : Int) (y : Nat) (code : BoundsCode), 0 ≤ i → i ≤ y → (Instr.sliceBound (.int k i) y code).run P w = .ok i.toNat w :=
    fun k i y code h0 h1 => run_sliceBound w k i y code h0 h1
  rcases maxs with ⟨rfl, rfl⟩ | ⟨km, rfl⟩ <;> rcases highs with ⟨rfl, rfl⟩ | ⟨kh, rfl⟩ <;> rcases lows with ⟨rfl, rfl⟩ | ⟨kl, rfl⟩
  all_goals (try (simp at hx; done))
  all_goals simp only [Instr.sliceBounds, Sem.run_bind, Sem.run_pure, Result.andThen_ok, Int.toNat_natCast, Option.isSome_none, Option.isSome_some]
  all_goals (repeat (first
    | rw [sb _ _ _ _ (by omega) (by omega)]
    | simp only [Result.andThen_ok, Int.toNat_zero] | simp only [Sem.run_bind, Result.andThen_ok] | simp only [Sem.run_pure, Result.andThen_ok, Int.toNat_natCast]))

theorem sliceK_sound {P : Program} {t : TypeId} {x : Value} {lo hi mx : Option Value} {c : Bool} {G : Prop → Prop} {K : Value → Prop}
    (hG : ∀ X, G X → (c = true → X)) (h : sliceK P t x lo hi mx G K) : ∃ v, (c = true → ∀ w, (Instr.sliceAt t x lo hi mx).run P w = .ok v w) ∧ K v := by
  unfold sliceK at h
  cases hx : (mx.isSome && hi.isNone) with
  | true => simp [hx] at h
  | false =>
    simp only [hx] at h
    cases hu : P.underlying t with
    | none => simp [hu] at h
    | some d =>
      cases d <;> simp only [hu] at h <;> try exact h.elim
      case string =>
        cases x <;> (try simp only at h) <;> try exact h.elim
        case string s =>
          cases mx with
          | some _ => simp at h
          | none =>
            (try simp only at h)
            cases hl : lowOf lo with
            | none => simp [hl] at h
            | some l =>
              cases hh : highOf s.size hi with
              | none => simp [hl, hh] at h
              | some h' =>
                simp only [hl, hh] at h
                obtain ⟨g, k⟩ := h
                refine ⟨_, fun hc w => ?_, k⟩
                have b := hG _ g hc
                have := sliceBounds_run (P := P) (w := w) (isS := false) (n := s.size) (c := s.size) (mx := none) hl hh rfl ⟨b.1, b.2.1, b.2.2, by omega⟩ (by simp)
                simp [Instr.sliceAt, Instr.slice, run_underlying hu, this]
      case slice e =>
        cases x <;> (try simp only at h) <;> try exact h.elim
        case slice a n cp =>
          cases hs : szOf P e with
          | none => simp [hs] at h
          | some sz =>
            cases hl : lowOf lo with
            | none => simp [hs, hl] at h
            | some l =>
              cases hh : highOf n hi with
              | none => simp [hs, hl, hh] at h
              | some h' =>
                cases hm : highOf cp mx with
                | none => simp [hs, hl, hh, hm] at h
                | some m =>
                  cases lo with
                  | none =>
                    simp only [hs, hl, hh, hm] at h
                    obtain ⟨g, k⟩ := h
                    refine ⟨_, fun hc w => ?_, k⟩
                    have b := hG _ g hc
                    have l0 : l = 0 := by simp [lowOf] at hl; exact hl.symm
                    subst l0
                    have := sliceBounds_run (P := P) (w := w) (isS := true) (n := n) (c := cp) hl hh hm ⟨by omega, b.1, b.2.1, b.2.2⟩ hx
                    simp [Instr.sliceAt, Instr.slice, run_underlying hu, this, run_szOf hs]
                    intro _
                    cases a <;> simp [Addr.add_zero]
                  | some lv =>
                    simp only [hs, hl, hh, hm] at h
                    obtain ⟨g, k⟩ := h
                    refine ⟨_, fun hc w => ?_, k⟩
                    have b := hG _ g hc
                    have := sliceBounds_run (P := P) (w := w) (isS := true) (n := n) (c := cp) hl hh hm b hx
                    simp [Instr.sliceAt, Instr.slice, run_underlying hu, this, run_szOf hs, subA]
      case array n e =>
        cases x <;> (try simp only at h) <;> try exact h.elim
        case pointer a =>
          cases a with
          | none => simp at h
          | some a =>
            (try simp only at h)
            cases hs : szOf P e with
            | none => simp [hs] at h
            | some sz =>
              cases hl : lowOf lo with
              | none => simp [hs, hl] at h
              | some l =>
                cases hh : highOf n hi with
                | none => simp [hs, hl, hh] at h
                | some h' =>
                  cases hm : highOf n mx with
                  | none => simp [hs, hl, hh, hm] at h
                  | some m =>
                    simp only [hs, hl, hh, hm] at h
                    obtain ⟨g, k⟩ := h
                    refine ⟨_, fun hc w => ?_, k⟩
                    have b := hG _ g hc
                    have := sliceBounds_run (P := P) (w := w) (isS := false) (n := n) (c := n) hl hh hm b hx
                    simp [Instr.sliceAt, run_underlying hu, this, run_szOf hs, subA, Instr.sureAddr]
                    split <;> rfl

theorem putL_eq : ∀ (vs : List Value) (k off : Nat) (cells : Array Value),
    (vs.zipIdx k).foldl (fun cs (x : Value × Nat) => cs.setIfInBounds (off + x.2) x.1) cells = (putL cells.toList (off + k) vs).toArray
  | [], _, _, cells => by simp [putL]
  | v :: vs, k, off, cells => by
    rw [List.zipIdx_cons, List.foldl_cons, putL_eq vs (k + 1) off]
    simp only [putL, Array.toList_setIfInBounds]
    rfl
theorem fillL_eq {place place' : Nat → Option (Nat × Nat)} (hp : ∀ i, place i = place' i) : ∀ {parts : List (Nat × Value)} {cells : List Value} {cs : List Value}, fillL place cells parts = some cs →
    Instr.fill place' cells.toArray parts = some cs.toArray
  | [], _, _, h => by simp [fillL] at h; subst h; rfl
  | (i, v) :: rest, cells, cs, h => by
    simp only [fillL] at h
    unfold Instr.fill
    rw [← hp i]
    cases hpl : place i with
    | none => simp [hpl] at h
    | some x =>
      obtain ⟨off, size⟩ := x
      simp only [hpl] at h ⊢
      cases hb : Nat.beq v.cells.toList.length size && Nat.ble (off + v.cells.toList.length) cells.length with
      | false => rw [hb] at h; cases h
      | true =>
        rw [hb] at h
        simp only [Bool.and_eq_true] at hb
        have h1 : v.cells.size = size := by have := Nat.eq_of_beq_eq_true hb.1; simpa using this
        have h2 : off + v.cells.size ≤ cells.length := by have := Nat.le_of_ble_eq_true hb.2; simpa using this
        rw [if_neg (by simp [h1]; omega)]
        have := fillL_eq hp h
        rw [← Array.foldl_toList, Array.toList_zipIdx]
        have e := putL_eq v.cells.toList 0 off cells.toArray
        simp only [Nat.add_zero] at e
        rw [show (fun (cs : Array Value) (x : Value × Nat) => match x with | (c, j) => cs.setIfInBounds (off + j) c) = (fun cs (x : Value × Nat) => cs.setIfInBounds (off + x.2) x.1) from rfl, e]
        exact this
theorem placesOf_eq {P : Program} : ∀ {fs : List Field} {l : List (Nat × Nat)}, placesOf P fs = some l → fs.mapM (fun f => (P.info? f.type).map fun i => (f.offset, i.size)) = some l
  | [], l, h => by simp [placesOf] at h; subst h; rfl
  | f :: fs, l, h => by
    simp only [placesOf] at h
    cases hs : szOf P f.type with
    | none => simp [hs] at h
    | some n =>
      cases hp : placesOf P fs with
      | none => simp [hs, hp] at h
      | some l' =>
        simp only [hs, hp, Option.some.injEq] at h
        subst h
        unfold szOf at hs
        cases hi : P.info? f.type with
        | none => simp [hi] at hs
        | some i =>
          simp [hi] at hs
          rw [List.mapM_cons]
          simp [hi, hs, placesOf_eq hp]
theorem builtL_eq {P : Program} {t : TypeId} {parts : List (Nat × Value)} {cs : List Value} (h : builtL P t parts = some cs) : P.built t parts = some cs.toArray := by
  unfold builtL at h
  unfold Program.built
  cases hi : P.info? t with
  | none => simp [hi] at h
  | some it =>
    cases hz : it.zero with
    | none => simp [hi, hz] at h
    | some z =>
      cases hu : P.underlying t with
      | none => simp [hi, hz, hu] at h
      | some d =>
        cases d <;> simp [hi, hz, hu] at h
        case array n e =>
          cases hs : szOf P e with
          | none => simp [hs] at h
          | some sz =>
            simp only [hs] at h
            unfold szOf at hs
            cases hie : P.info? e with
            | none => simp [hie] at hs
            | some ie =>
              simp [hie] at hs
              subst hs
              simp only [hz, hie]
              have := fillL_eq (place' := fun i => some (i * ie.size, ie.size)) (fun i => rfl) h
              simpa using this
        case struct fs =>
          cases hp : placesOf P fs.toList with
          | none => simp [hp] at h
          | some pl =>
            simp only [hp] at h
            simp only [hz, placesOf_eq hp]
            have := fillL_eq (place' := fun i => pl.toArray[i]?) (fun i => by simp) h
            simpa using this
theorem partsL_eq (ρ : Operand → Value) : ∀ l : List (Nat × Operand), partsL ρ l = l.map fun (i, x) => (i, ρ x)
  | [] => rfl
  | (i, x) :: l => by simp [partsL, partsL_eq ρ l]
theorem partsL_arr (ρ : Operand → Value) (parts : Array (Nat × Operand)) : (parts.map fun (i, x) => (i, ρ x)) = (partsL ρ parts.toList).toArray := by
  rw [partsL_eq]; cases parts; simp

theorem pureK_sound {P : Program} {o : Oper} {ρ : Operand → Value} {c : Bool} {G : Prop → Prop} {K : Value → Prop}
    (hG : ∀ X, G X → (c = true → X)) (h : pureK P o ρ G K) : ∃ v, (c = true → PureAll P o ρ v) ∧ K v := by
  obtain ⟨dst, op, ty, pos, after, guard⟩ := o
  cases op <;> simp only [pureK] at h <;> try exact h.elim
  case move x => exact ⟨_, fun _ w => by simp [execOp], h⟩
  case assign x => exact ⟨_, fun _ w => by simp [execOp], h⟩
  case pick cc a b =>
    cases hc : ρ cc <;> simp only [hc] at h <;> try exact h.elim
    case bool x =>
      cases ha : ρ a <;> simp only [ha] at h <;> try exact h.elim
      case bool y =>
        cases hb : ρ b <;> simp only [hb] at h <;> try exact h.elim
        case bool z =>
          refine ⟨_, fun _ w => ?_, h⟩
          cases x <;> simp [execOp, hc, ha, hb, asBool]
  case nilCheck x =>
    cases hx : ρ x <;> simp only [hx] at h <;> try exact h.elim
    case pointer a =>
      obtain ⟨p, g, k⟩ := h
      exact ⟨_, fun hc w => by have := hG _ g hc; subst this; simp [execOp, hx], k⟩
    case func fn a b =>
      cases fn <;> (try simp only at h) <;> try exact h.elim
      exact ⟨_, fun _ w => by simp [execOp, hx], h⟩
    case iface t v => exact ⟨_, fun _ w => by simp [execOp, hx], h⟩
  case binOp op t x y yt =>
    obtain ⟨v, hv, k⟩ := binK_sound (P := P) (t := t) (x := x) (y := y) hG h
    exact ⟨v, fun hc w => by
      have := hv hc w
      simp only [execOp]
      rw [Sem.run_bind, this]; rfl, k⟩
  case unOp op t x =>
    cases op <;> cases hx : ρ x <;> simp only [hx] at h <;> try exact h.elim
    · exact ⟨_, fun _ w => by simp [execOp, hx, Op.unary, Op.intArith], h⟩
    · rename_i k n; exact ⟨_, fun _ w => by cases hk : k.signed <;> simp [execOp, hx, Op.unary, Op.intBits, hk], h⟩
    · exact ⟨_, fun _ w => by simp [execOp, hx, Op.unary], h⟩
  case convert s d x =>
    cases hs : P.underlying s with
    | none => simp [hs] at h
    | some ds =>
      cases hd : P.underlying d with
      | none => cases ds <;> simp [hs, hd] at h
      | some dd =>
        cases ds <;> cases dd <;> simp only [hs, hd] at h <;> try exact h.elim
        · cases hx : ρ x <;> simp only [hx] at h <;> try exact h.elim
          exact ⟨_, fun _ w => by simp [execOp, convert, run_underlying hs, run_underlying hd, hx, Conv.intToInt], h⟩
        · cases hx : ρ x <;> simp only [hx] at h <;> try exact h.elim
          exact ⟨_, fun _ w => by simp [execOp, convert, run_underlying hs, run_underlying hd, hx], h⟩
  case makeInterface t x =>
    cases ht : P.underlying t with
    | none => simp [ht] at h
    | some d =>
      cases d <;> simp only [ht] at h <;> try exact h.elim
      all_goals exact ⟨_, fun _ w => by simp [execOp, Instr.makeInterface, run_underlying ht], h⟩
  case makeFunc fn first captured => exact ⟨_, fun _ w => by simp [execOp, Instr.makeFunc, mapA_eq], h⟩
  case slice t x lo hi mx =>
    obtain ⟨v, hv, k⟩ := sliceK_sound hG h
    exact ⟨v, fun hc w => by simp [execOp, hv hc w], k⟩
  case fieldAddr s x f =>
    cases hs : P.underlying s with
    | none => simp [hs] at h
    | some d =>
      cases d <;> simp only [hs] at h <;> try exact h.elim
      case struct fs =>
        cases hx : ρ x <;> simp only [hx] at h <;> try exact h.elim
        case pointer a =>
          cases a <;> (try simp only at h) <;> try exact h.elim
          case some a =>
            cases hf : fs[f]? with
            | none => simp [hf] at h
            | some fd =>
              simp only [hf] at h
              cases hz : szOf P fd.type with
              | none => simp [hz] at h
              | some n =>
                cases n with
                | zero => simp [hz] at h
                | succ n =>
                  simp only [hz] at h
                  exact ⟨_, fun _ w => by simp [execOp, Instr.fieldAt, run_underlying hs, hf, hx, Instr.sureAddr, fieldPlace, run_szOf hz], h⟩
  case field t x f =>
    cases ht : P.underlying t with
    | none => simp [ht] at h
    | some d =>
      cases d <;> simp only [ht] at h <;> try exact h.elim
      case struct fs =>
        cases hx : ρ x <;> simp only [hx] at h <;> try exact h.elim
        case agg cs =>
          cases hf : fs[f]? with
          | none => simp [hf] at h
          | some fd =>
            simp only [hf] at h
            obtain ⟨v, hv, k⟩ := partK_sound hG h
            exact ⟨v, fun hc w => by simp [execOp, Instr.field, run_underlying ht, hf, hx, asAgg, hv hc w], k⟩
  case indexAddr t x ix =>
    cases ht : P.underlying t with
    | none => simp [ht] at h
    | some d =>
      cases d <;> simp only [ht] at h <;> try exact h.elim
      case array n e =>
        cases hx : ρ x <;> simp only [hx] at h <;> try exact h.elim
        case pointer a =>
          cases a <;> (try simp only at h) <;> try exact h.elim
          case some a =>
            cases hi : ρ ix <;> simp only [hi] at h <;> try exact h.elim
            case int k i =>
              cases hz : szOf P e with
              | none => simp [hz] at h
              | some sz =>
                simp only [hz] at h
                obtain ⟨g, k⟩ := h
                exact ⟨_, fun hc w => by
                  have b := hG _ g hc
                  simp [execOp, Instr.indexAt, hx, hi, asIntOf, run_underlying ht, Instr.sureAddr, b.1, b.2, run_szOf hz], k⟩
      case slice e =>
        cases hx : ρ x <;> simp only [hx] at h <;> try exact h.elim
        case slice a n cp =>
          cases hi : ρ ix <;> simp only [hi] at h <;> try exact h.elim
          case int k i =>
            cases hz : szOf P e with
            | none => simp [hz] at h
            | some sz =>
              simp only [hz] at h
              obtain ⟨p, g, k⟩ := h
              exact ⟨_, fun hc w => by
                obtain ⟨rfl, b1, b2⟩ := hG _ g hc
                simp [execOp, Instr.indexAt, hx, hi, asIntOf, run_underlying ht, b1, b2, run_szOf hz], k⟩
  case index t x ix =>
    cases ht : P.underlying t with
    | none => simp [ht] at h
    | some d =>
      cases d <;> simp only [ht] at h <;> try exact h.elim
      case string =>
        cases hx : ρ x <;> simp only [hx] at h <;> try exact h.elim
        case string s =>
          cases hi : ρ ix <;> simp only [hi] at h <;> try exact h.elim
          case int k i =>
            obtain ⟨g, kk⟩ := h
            refine ⟨_, fun hc w => ?_, kk⟩
            have b := hG _ g hc
            have hlt : i.toNat < s.size := by omega
            have hget : s[i.toNat]? = some s[i.toNat] := by simp [hlt]
            have hd : s.data.getD i.toNat 0 = s[i.toNat] := by
              have h1 : i.toNat < s.data.size := hlt
              rw [Array.getD_eq_getD_getElem?, Array.getElem?_eq_getElem h1]; rfl
            simp [execOp, Instr.index, hx, hi, asIntOf, run_underlying ht, b.1, hget, byteAt, hd]
      case array n e =>
        cases hx : ρ x <;> simp only [hx] at h <;> try exact h.elim
        case agg cs =>
          cases hi : ρ ix <;> simp only [hi] at h <;> try exact h.elim
          case int k i =>
            cases hz : szOf P e with
            | none => simp [hz] at h
            | some sz =>
              simp only [hz] at h
              obtain ⟨g, h⟩ := h
              obtain ⟨v, hv, k⟩ := partK_sound hG h
              exact ⟨v, fun hc w => by
                have b := hG _ g hc
                simp [execOp, Instr.index, hx, hi, asIntOf, run_underlying ht, b.1, b.2, run_szOf hz, hv hc w], k⟩
  case extract x i =>
    cases hx : ρ x <;> simp only [hx] at h <;> try exact h.elim
    case tuple vs =>
      cases hv : vs[i]? with
      | none => simp [hv] at h
      | some v =>
        simp only [hv] at h
        exact ⟨_, fun _ w => by simp [execOp, Instr.extract, hx, hv], h⟩
  case build t parts =>
    cases hb : bigT P t with
    | true =>
      simp only [hb] at h
      obtain ⟨cs, g, k⟩ := h
      exact ⟨_, fun hc w => by
        have := hG _ g hc
        simp only [execOp, Sem.run_bind, partsL_arr]
        rw [run_build w t _ cs this.eq]; rfl, k⟩
    | false =>
      simp only [hb] at h
      cases hp : builtL P t (partsL ρ parts.toList) with
      | none => simp only [hp] at h
      | some cs =>
        simp only [hp] at h
        exact ⟨_, fun _ w => by
          simp only [execOp, Sem.run_bind, partsL_arr]
          rw [run_build w t _ _ (builtL_eq hp)]; rfl, h⟩
  case call cl =>
    obtain ⟨callee, args, argTypes⟩ := cl
    cases callee <;> (try simp only at h) <;> try exact h.elim
    case builtin b =>
      cases b <;> (try simp only at h) <;> try exact h.elim
      case len =>
        cases ht : (argTypes[0]?).bind P.underlying with
        | none => simp [ht] at h
        | some d =>
          cases hx : (args[0]?).map ρ with
          | none => cases d <;> simp [ht, hx] at h
          | some v =>
            obtain ⟨t0, ht0, ht1⟩ := Option.bind_eq_some_iff.1 ht
            have hx' : (args.map ρ)[0]? = some v := by rw [Array.getElem?_map]; exact hx
            cases d <;> cases v <;> simp only [ht, hx] at h <;> try exact h.elim
            all_goals exact ⟨_, fun _ w => by simp only [execOp, resolve, invoke, builtin, Sem.run_bind, Sem.run_pure, Result.andThen_ok, Builtin.len_, ht0, hx', run_underlying ht1, goInt], h⟩
      case cap =>
        cases ht : (argTypes[0]?).bind P.underlying with
        | none => simp [ht] at h
        | some d =>
          cases hx : (args[0]?).map ρ with
          | none => cases d <;> simp [ht, hx] at h
          | some v =>
            obtain ⟨t0, ht0, ht1⟩ := Option.bind_eq_some_iff.1 ht
            have hx' : (args.map ρ)[0]? = some v := by rw [Array.getElem?_map]; exact hx
            cases d <;> cases v <;> simp only [ht, hx] at h <;> try exact h.elim
            all_goals exact ⟨_, fun _ w => by simp only [execOp, resolve, invoke, builtin, Sem.run_bind, Sem.run_pure, Result.andThen_ok, Builtin.cap_, ht0, hx', run_underlying ht1, goInt], h⟩
end Go.Vc
end

section
set_option linter.unusedSimpArgs false
set_option linter.unusedVariables false
namespace Go.Vc
open Go

theorem readK_sound {P : Program} {sh : Sh} {o : Oper} {ρ : Operand → Value} {h : Heap} {c : Bool} {G : Prop → Prop} {K : Value → Prop}
    (hG : ∀ X, G X → (c = true → X)) (hh : readK P sh o ρ h G K) : ∃ v, (c = true → ReadAt P o ρ h v) ∧ K v := by
  have run : ∀ (s : Sem Value) (v : Value), Reads P s h v → (execOp ρ o = (do let x ← s; pure (Next.value x) : Sem Next)) → ReadAt P o ρ h v := fun s v hr he w hw =>
    .inl (by rw [he, Sem.run_bind, hr.run w hw]; rfl)
  unfold readK at hh
  split at hh
  · rename_i g hop
    exact ⟨undef, fun hc w hw => .inr ⟨by
      have := (hG _ hh.1 hc).run w hw
      simp [execOp, hop, this], rfl⟩, hh.2⟩
  · rename_i hnr
    clear hnr
    split at hh
    · rename_i s hs
      obtain ⟨v, g, k⟩ := exSh_some hh
      refine ⟨v, fun hc => run s v (hG _ g hc) ?_, k⟩
      clear hh g k run hG hc
      obtain ⟨dst, op, ty, pos, after, guard⟩ := o
      cases op <;> simp only [semR, Option.some.injEq, reduceCtorEq] at hs <;> try (subst hs; rfl)
      case call cl =>
        obtain ⟨callee, args, argTypes⟩ := cl
        cases callee <;> (try (simp [semR, semE] at hs; done))
        case builtin b =>
          cases b <;> simp only [semR, semE, Option.some.injEq, reduceCtorEq] at hs <;> (subst hs; rw [mapA_eq]; rfl)
    · exact hh.elim

theorem effK0_sound {P : Program} {o : Oper} {ρ : Operand → Value} {h : Heap} {K : Value → Heap → Prop} (hh : effK0 P o ρ h K) : EffAt P o ρ h K := by
  unfold effK0 at hh
  split at hh
  · rename_i s hs
    have he : execOp ρ o = (do let x ← s; pure (Next.value x) : Sem Next) := by
      clear hh
      obtain ⟨dst, op, ty, pos, after, guard⟩ := o
      cases op <;> simp only [semE, Option.some.injEq, reduceCtorEq] at hs <;> try (subst hs; first | rfl | (rw [← partsL_arr]; rfl))
      case call cl =>
        obtain ⟨callee, args, argTypes⟩ := cl
        cases callee <;> (try (simp [semR, semE] at hs; done))
        case builtin b =>
          cases b <;> simp only [semR, semE, Option.some.injEq, reduceCtorEq] at hs <;> (subst hs; rw [mapA_eq]; rfl)
    intro w hw
    obtain ⟨v, w', hr, hs, hk⟩ := hh.run w hw
    obtain ⟨v', rfl, hk⟩ := exSh_some hk
    rw [he, Sem.run_bind, hr]
    exact ⟨hs, hk⟩
  · split at hh
    · rename_i s hs
      have he : execOp ρ o = (do s; pure Next.skip : Sem Next) := by
        clear hh
        obtain ⟨dst, op, ty, pos, after, guard⟩ := o
        cases op <;> simp only [semU, Option.some.injEq, reduceCtorEq] at hs <;> (subst hs; rfl)
      intro w hw
      obtain ⟨v, w', hr, hs, hk⟩ := hh.run w hw
      rw [he, Sem.run_bind, hr]
      exact ⟨hs, hk⟩
    · split at hh
      · rename_i x1 x2 f args argTypes hop
        split at hh
        · rename_i f first captured hf
          split at hh
          · rename_i hok
            intro w hw
            have he : (execOp ρ o).run P w = .ok (.enter f (first ++ mapA ρ args ++ captured)) w := by
              rw [mapA_eq]
              unfold fnOk at hok
              cases hfn : P.funcs[f]? with
              | none => simp [hfn] at hok
              | some fn =>
                simp only [hfn, Bool.and_eq_true, Bool.not_eq_true', beq_eq_false_iff_ne] at hok
                obtain ⟨h1, h2⟩ := hok
                cases hb : fn.body with
                | none => rw [hb] at h2; simp at h2
                | some body => simp [execOp, hop, resolve, hf, Deferred.ofValue, invoke, callFunc, hfn, h1, hb]
            rw [he]
            refine ⟨Sane.refl _, (hh.run w hw).mono fun e w' ⟨v, he, s, k⟩ => ?_⟩
            obtain ⟨v', rfl, k⟩ := exSh_some k
            exact ⟨v, he, s, k⟩
          · exact hh.elim
        · exact hh.elim
      · rename_i x1 x2 x name args argTypes hop
        obtain ⟨f, r, hm, hh⟩ := hh
        intro w hw
        have he : (execOp ρ o).run P w = .ok (.enter f (#[r] ++ mapA ρ args)) w := by
          rw [mapA_eq]
          have hx : (#[ρ x] ++ args.map ρ).extract 1 (#[ρ x] ++ args.map ρ).size = args.map ρ := by
            apply Array.ext'
            simp only [Array.toList_extract, Array.toList_append, List.size_toArray]
            simp
            exact List.take_of_length_le (by simp)
          have := hm.run w (args.map ρ)
          have h0 : (#[ρ x] ++ args.map ρ)[0]? = some (ρ x) := by rw [Array.getElem?_append_left (by simp)]; rfl
          simp only [execOp, hop, resolve, Sem.run_bind, Sem.run_pure, Result.andThen_ok, invoke, h0]
          rw [hx]
          exact this
        rw [he]
        refine ⟨Sane.refl _, (hh.run w hw).mono fun e w' ⟨v, he, s, k⟩ => ?_⟩
        obtain ⟨v', rfl, k⟩ := exSh_some k
        exact ⟨v, he, s, k⟩
      · exact hh.elim

theorem effK_sound {P : Program} {o : Oper} {ρ : Operand → Value} {h : Heap} {K : Value → Heap → Prop} (hh : effK P o ρ h K) : EffAt P o ρ h K := by
  unfold effK at hh
  split at hh
  · rename_i e hop
    cases hz : hasZ P e with
    | false => simp [hz] at hh
    | true =>
      simp only [hz] at hh
      unfold hasZ at hz
      cases hi : P.info? e with
      | none => simp [hi] at hz
      | some i =>
        cases hzz : i.zero with
        | none => simp [hi, hzz] at hz
        | some z =>
          intro w hw
          subst hw
          have : (execOp ρ o).run P w = .ok (.value (.pointer (some ⟨w.heap.size, 0, none⟩))) { w with heap := w.heap.push (.cells z.cells e (0, 0)) } := by
            have hzv : (zeroValue e).run P w = .ok z w := by simp [zeroValue, typeInfo, hi, hzz]
            simp only [execOp, hop, Instr.alloc, Sem.run_bind, hzv, Result.andThen_ok, newVar, newRow, run_newObj, Sem.run_pure]
          rw [this]
          have hc : zc P e = z.cells := by simp [zc, hi, hzz]
          split at hh
          · obtain ⟨cs, ⟨rfl⟩, hh⟩ := hh
            rw [hc] at hh
            exact ⟨Sane.push rfl, hh⟩
          · rw [hc] at hh
            exact ⟨Sane.push rfl, hh⟩
  · rename_i it s hop
    intro w hw
    obtain ⟨v, w', hr, hs, hk⟩ := hh.run w hw
    have he : execOp ρ o = (do let x ← Instr.next (ρ it) s o.type; pure (Next.value x) : Sem Next) := by simp only [execOp, hop]
    rw [he, Sem.run_bind, hr]
    rcases hk with ⟨rfl, hk⟩ | hk
    · exact ⟨hs, hk⟩
    · cases s <;> (obtain ⟨_, _, rfl, hk⟩ := hk; exact ⟨hs, hk⟩)
  · rename_i e x hop
    intro w hw
    subst hw
    have : (execOp ρ o).run P w = .ok (.value (.pointer (some ⟨w.heap.size, 0, none⟩))) { w with heap := w.heap.push (.cells (ρ x).cells e (0, 0)) } := by
      simp only [execOp, hop, Instr.box, Sem.run_bind, Result.andThen_ok, newVar, newRow, run_newObj, Sem.run_pure]
    rw [this]
    exact ⟨Sane.push rfl, hh⟩
  · rename_i t hop
    intro w hw
    subst hw
    have : (execOp ρ o).run P w = .ok (.value (.map (some w.heap.size))) { w with heap := w.heap.push (.map #[] 0) } := by
      simp only [execOp, hop, Option.map_none, Instr.makeMap, Sem.run_bind, Result.andThen_ok, run_newObj, Sem.run_pure]
    rw [this]
    exact ⟨Sane.push rfl, hh⟩
  · exact effK0_sound hh

/- ------------------------------------------------------------------ the frame against the real one -/

def WfP (l : Env) : Path → Prop
  | [] => True
  | (t, _) :: r => (∃ b, lookL l t = some (r, .bool b)) ∧ WfP l r

structure Inv (n : Nat) (l : Env) (g : Env0) (D : List Path) (a : Act) : Prop where
  size : a.tmps.size = n
  agL : ∀ t p v, (t, p, v) ∈ l → (cond l p = true → a.tmps[t]? = some v) ∧ (cond l p = false → a.tmps[t]? = some undef)
  agG : ∀ t v, lookG g t = some v → lookL l t = none → a.tmps[t]? = some v
  wf : ∀ t p v, (t, p, v) ∈ l → WfP l p
  dead : ∀ p ∈ D, cond l p = false
  deadWf : ∀ p ∈ D, WfP l p

theorem lookL_mem : ∀ {l : Env} {t : Nat} {p : Path} {v : Value}, lookL l t = some (p, v) → (t, p, v) ∈ l
  | [], _, _, _, h => by simp [lookL] at h
  | (u, q, x) :: l, t, p, v, h => by
    simp only [lookL] at h
    cases hb : Nat.beq u t with
    | true =>
      simp only [hb, Option.some.injEq, Prod.mk.injEq] at h
      obtain ⟨rfl, rfl⟩ := h
      rw [Nat.eq_of_beq_eq_true hb]; exact List.mem_cons_self
    | false =>
      simp only [hb] at h
      exact List.mem_cons_of_mem _ (lookL_mem h)

theorem noKey_spec : ∀ {l : Env} {d : Nat}, noKey l d = true → lookL l d = none ∧ ∀ t p v, (t, p, v) ∈ l → t ≠ d
  | [], _, _ => ⟨rfl, fun _ _ _ h => by cases h⟩
  | (u, q, x) :: l, d, h => by
    simp only [noKey] at h
    cases hb : Nat.beq u d with
    | true => simp [hb] at h
    | false =>
      simp only [hb] at h
      obtain ⟨h1, h2⟩ := noKey_spec h
      refine ⟨by simp only [lookL, hb]; exact h1, fun t p v hm => ?_⟩
      rcases List.mem_cons.1 hm with he | he
      · cases he; exact Nat.ne_of_beq_eq_false hb
      · exact h2 _ _ _ he

theorem lookL_cons_ne {l : Env} {d t : Nat} {p : Path} {v : Value} (h : d ≠ t) : lookL ((d, p, v) :: l) t = lookL l t := by
  simp only [lookL]
  cases hb : Nat.beq d t with
  | true => exact absurd (Nat.eq_of_beq_eq_true hb) h
  | false => rfl
theorem lookL_cons_eq {l : Env} {d : Nat} {p : Path} {v : Value} : lookL ((d, p, v) :: l) d = some (p, v) := by
  simp [lookL]

theorem WfP.fresh {l : Env} {d : Nat} {q : Path} {v : Value} (hd : lookL l d = none) : ∀ {p : Path}, WfP l p → WfP ((d, q, v) :: l) p
  | [], _ => trivial
  | (t, w) :: r, ⟨⟨b, hb⟩, h⟩ => ⟨⟨b, by
      rw [lookL_cons_ne (fun e => by subst e; rw [hd] at hb; cases hb)]; exact hb⟩, h.fresh hd⟩

theorem cond_congr {l l' : Env} : ∀ {p : Path}, (∀ t w, (t, w) ∈ p → bval l' t = bval l t) → cond l' p = cond l p
  | [], _ => rfl
  | (t, w) :: r, h => by
    rw [cond_cons, cond_cons, h t w List.mem_cons_self, cond_congr (fun s w hm => h s w (List.mem_cons_of_mem _ hm))]

theorem WfP.keys {l : Env} : ∀ {p : Path}, WfP l p → ∀ t w, (t, w) ∈ p → ∃ r b, lookL l t = some (r, .bool b)
  | [], _, _, _, h => by cases h
  | (s, x) :: r, ⟨⟨b, hb⟩, h⟩, t, w, hm => by
    rcases List.mem_cons.1 hm with he | he
    · cases he; exact ⟨_, _, hb⟩
    · exact h.keys t w he

theorem cond_fresh {l : Env} {d : Nat} {q : Path} {v : Value} (hd : lookL l d = none) {p : Path} (h : WfP l p) : cond ((d, q, v) :: l) p = cond l p :=
  cond_congr fun t w hm => by
    obtain ⟨r, b, hk⟩ := h.keys t w hm
    unfold bval
    rw [lookL_cons_ne (fun e => by subst e; rw [hd] at hk; cases hk)]

theorem Inv.wr {n : Nat} {l : Env} {g : Env0} {D : List Path} {a : Act} {d : Nat} {p : Path} {v u : Value} (hi : Inv n l g D a) (hlt : d < n)
    (hd : noKey l d = true) (hp : WfP l p) (h1 : cond l p = true → u = v) (h2 : cond l p = false → u = undef) : Inv n ((d, p, v) :: l) g D (a.put (some d) u) := by
  obtain ⟨hn, hne⟩ := noKey_spec hd
  have hsz : d < a.tmps.size := by rw [hi.size]; exact hlt
  have same : ∀ t, t ≠ d → (a.put (some d) u).tmps[t]? = a.tmps[t]? := fun t ht => by
    simp [Act.put, Array.getElem?_setIfInBounds_ne (Ne.symm ht)]
  have here : (a.put (some d) u).tmps[d]? = some u := by simp [Act.put, hsz]
  refine ⟨by simp [Act.put, hi.size], fun t q x hm => ?_, fun t x hg hl => ?_, fun t q x hm => ?_, fun q hq => ?_, fun q hq => (hi.deadWf q hq).fresh hn⟩
  · rcases List.mem_cons.1 hm with he | he
    · cases he
      rw [cond_fresh hn hp, here]
      exact ⟨fun h => by rw [h1 h], fun h => by rw [h2 h]⟩
    · rw [cond_fresh hn (hi.wf _ _ _ he), same t (hne _ _ _ he)]
      exact hi.agL t q x he
  · by_cases ht : t = d
    · subst ht; rw [lookL_cons_eq] at hl; cases hl
    · rw [lookL_cons_ne (Ne.symm ht)] at hl
      rw [same t ht]; exact hi.agG t x hg hl
  · rcases List.mem_cons.1 hm with he | he
    · cases he; exact hp.fresh hn
    · exact (hi.wf _ _ _ he).fresh hn
  · rw [cond_fresh hn (hi.deadWf q hq)]; exact hi.dead q hq

theorem wr_sound {n : Nat} {l : Env} {g : Env0} {D : List Path} {a : Act} {dst : Option Tmp} {p : Path} {v u : Value} {K : Env → Prop} (hi : Inv n l g D a)
    (hp : WfP l p) (h1 : cond l p = true → u = v) (h2 : cond l p = false → u = undef) (h : wr n l p dst v K) : ∃ l', Inv n l' g D (a.put dst u) ∧ K l' := by
  unfold wr at h
  cases dst with
  | none => exact ⟨l, hi, h⟩
  | some d =>
    simp only at h
    cases hb : Nat.blt d n && noKey l d with
    | false => simp [hb] at h
    | true =>
      simp only [hb] at h
      simp only [Bool.and_eq_true, Nat.blt_eq] at hb
      exact ⟨_, hi.wr hb.1 hb.2 hp h1 h2, h⟩

theorem isDead_spec {l : Env} : ∀ {D : List Path} {p : Path}, isDead D p = true → (∀ q ∈ D, cond l q = false) → cond l p = false
  | [], _, h, _ => by simp [isDead] at h
  | q :: D, p, h, hD => by
    simp only [isDead, Bool.or_eq_true] at h
    rcases h with h | h
    · cases hc : cond l p with
      | false => rfl
      | true => rw [← hD q List.mem_cons_self]; exact (sub_cond h hc).symm
    · exact isDead_spec h fun q hq => hD q (List.mem_cons_of_mem _ hq)

theorem wanted_iff {n : Nat} {ops : Array Oper} {l : Env} {g : Env0} {D : List Path} {a : Act} {o : Oper} {p : Path} (hi : Inv n l g D a) (hp : pathOf ops l D o = some p) :
    Region.wanted o (yielded ops a.tmps) = cond l p ∧ WfP l p := by
  unfold pathOf at hp
  cases hg : o.guard with
  | none =>
    simp only [hg, Option.some.injEq] at hp
    subst hp
    exact ⟨by simp [Region.wanted, hg, cond], trivial⟩
  | some jw =>
    obtain ⟨j, w⟩ := jw
    simp only [hg] at hp
    cases ht : (ops[j]?).bind (·.dst) with
    | none => simp [ht] at hp
    | some t =>
      simp only [ht] at hp
      have hy : yielded ops a.tmps j = (a.tmps[t]?).bind fun v => match v with | .bool b => some b | _ => none := by
        unfold yielded; rw [ht]
        simp only [Option.bind_some]
        cases a.tmps[t]? with
        | none => rfl
        | some v => cases v <;> rfl
      cases hl : lookL l t with
      | none => simp [hl] at hp
      | some x =>
        obtain ⟨r, v⟩ := x
        have hm := lookL_mem hl
        by_cases hbv : ∃ b, v = .bool b
        · obtain ⟨b, rfl⟩ := hbv
          simp only [hl, Option.some.injEq] at hp
          subst hp
          refine ⟨?_, ⟨b, hl⟩, hi.wf _ _ _ hm⟩
          have hb : bval l t = b := by simp [bval, hl]
          rw [cond_cons, hb]
          simp only [Region.wanted, hg, hy]
          cases hc : cond l r with
          | true =>
            rw [(hi.agL _ _ _ hm).1 hc]
            cases b <;> cases w <;> rfl
          | false =>
            rw [(hi.agL _ _ _ hm).2 hc]
            cases b <;> cases w <;> rfl
        · have hdr : isDead D r = true ∧ r = p := by
            cases hd : isDead D r with
            | true => cases v <;> simp_all
            | false => cases v <;> simp_all
          obtain ⟨hd, rfl⟩ := hdr
          have hc : cond l r = false := isDead_spec hd hi.dead
          refine ⟨?_, hi.wf _ _ _ hm⟩
          simp only [Region.wanted, hg, hy]
          rw [(hi.agL _ _ _ hm).2 hc, hc]
          cases w <;> rfl

/- operands -/
theorem look_act {n : Nat} {l : Env} {g : Env0} {D : List Path} {a : Act} (hi : Inv n l g D a) {t : Nat} {q : Path} {v : Value} (h : look l g t = some (q, v))
    (hc : cond l q = true) : a.tmps[t]? = some v := by
  unfold look at h
  cases hl : lookL l t with
  | some x =>
    simp only [hl, Option.some.injEq] at h
    subst h
    exact (hi.agL _ _ _ (lookL_mem hl)).1 hc
  | none =>
    simp only [hl] at h
    cases hg : lookG g t with
    | none => simp [hg] at h
    | some x =>
      simp only [hg, Option.some.injEq, Prod.mk.injEq] at h
      obtain ⟨rfl, rfl⟩ := h
      exact hi.agG t _ hg hl

theorem eval_val {n : Nat} {l : Env} {g : Env0} {D : List Path} {a : Act} (hi : Inv n l g D a) {p : Path} {x : Operand} (hok : okIn l g p x = true) (hc : cond l p = true) :
    a.eval x = val l g x := by
  cases x with
  | tmp t =>
    simp only [okIn] at hok
    cases hl : look l g t with
    | none => simp [hl] at hok
    | some y =>
      obtain ⟨q, v⟩ := y
      simp only [hl] at hok
      have := look_act hi hl (sub_cond hok hc)
      simp [Act.eval, val, hl, this]
  | _ => rfl

theorem withRho_sound {l : Env} {g : Env0} {p : Path} : ∀ {xs : List Operand} {K : Env0 → Prop}, withRho l g p xs K →
    ∃ e, K e ∧ (∀ t, .tmp t ∈ xs → ∃ v, lookG e t = some v) ∧ ∀ t v, lookG e t = some v → ∃ q, look l g t = some (q, v) ∧ sub q p = true
  | [], K, h => ⟨[], h, fun _ h => (by cases h), fun _ _ h => (by simp [lookG] at h)⟩
  | x :: xs, K, h => by
    cases x with
    | tmp t =>
      simp only [withRho] at h
      cases hl : look l g t with
      | none => simp [hl] at h
      | some y =>
        obtain ⟨q, v⟩ := y
        simp only [hl] at h
        cases hs : sub q p with
        | false => simp [hs] at h
        | true =>
          simp only [hs] at h
          obtain ⟨e, hk, h1, h2⟩ := withRho_sound h
          refine ⟨_, hk, fun s hm => ?_, fun s u hu => ?_⟩
          · simp only [lookG]
            cases hb : Nat.beq t s with
            | true => exact ⟨v, rfl⟩
            | false =>
              rcases List.mem_cons.1 hm with he | he
              · cases he; simp at hb
              · exact h1 s he
          · simp only [lookG] at hu
            cases hb : Nat.beq t s with
            | true =>
              simp only [hb, Option.some.injEq] at hu
              rw [← Nat.eq_of_beq_eq_true hb, ← hu]; exact ⟨q, hl, hs⟩
            | false => simp only [hb] at hu; exact h2 s u hu
    | _ =>
      simp only [withRho] at h
      obtain ⟨e, hk, h1, h2⟩ := withRho_sound h
      exact ⟨e, hk, fun s hm => h1 s (by simpa using hm), h2⟩

theorem exec_val {n : Nat} {l : Env} {g e : Env0} {D : List Path} {a : Act} (hi : Inv n l g D a) {p : Path} {o : Oper} (hs : ∀ cs b, o.op ≠ .select cs b)
    (h1 : ∀ t, .tmp t ∈ o.op.operands.toList → ∃ v, lookG e t = some v) (h2 : ∀ t v, lookG e t = some v → ∃ q, look l g t = some (q, v) ∧ sub q p = true)
    (hc : cond l p = true) : execOp a.eval o = execOp (val [] e) o :=
  execOp_congr o hs fun x hx => by
    cases x with
    | tmp t =>
      obtain ⟨v, hv⟩ := h1 t (by simpa using hx)
      obtain ⟨q, hq, hsub⟩ := h2 t v hv
      have := look_act hi hq (sub_cond hsub hc)
      simp [Act.eval, val, look, lookL, hv, this]
    | _ => rfl

theorem moveK_sound {P : Program} {n : Nat} {l : Env} {g : Env0} {D : List Path} {a : Act} (hi : Inv n l g D a) {p : Path} {o : Oper} {x : Operand} {K : Value → Prop}
    (ho : o.op = .move x ∨ o.op = .assign x) (h : moveK l g p x K) : ∃ v, (cond l p = true → PureAll P o a.eval v) ∧ K v := by
  have run : ∀ v, a.eval x = v → PureAll P o a.eval v := fun v hv w => by
    rcases ho with ho | ho <;> simp [execOp, ho, hv]
  cases x with
  | tmp t =>
    simp only [moveK] at h
    cases hl : look l g t with
    | none => simp [hl] at h
    | some y =>
      obtain ⟨q, v⟩ := y
      simp only [hl] at h
      cases hs : sub q p with
      | false => simp [hs] at h
      | true =>
        simp only [hs] at h
        exact ⟨v, fun hc => run v (by
          have := look_act hi hl (sub_cond hs hc)
          simp [Act.eval, this]), h⟩
  | const v => exact ⟨v, fun _ => run v rfl, h⟩
  | global gg => exact ⟨_, fun _ => run _ rfl, h⟩
  | func f => exact ⟨_, fun _ => run _ rfl, h⟩

/- shadows: a guard's value as a literal -/
def Ext (l l' : Env) : Prop := (∀ s, bval l' s = bval l s) ∧ ∀ q, WfP l q → WfP l' q
theorem Ext.refl (l : Env) : Ext l l := ⟨fun _ => rfl, fun _ h => h⟩
theorem Ext.trans {a b c : Env} (h : Ext a b) (k : Ext b c) : Ext a c := ⟨fun s => (k.1 s).trans (h.1 s), fun q hq => k.2 q (h.2 q hq)⟩
theorem Ext.cond {l l' : Env} (h : Ext l l') (p : Path) : Vc.cond l' p = Vc.cond l p := cond_congr fun t _ _ => h.1 t

theorem shadow {n : Nat} {l : Env} {g : Env0} {D : List Path} {a : Act} {t : Nat} {r : Path} {b : Bool} (hi : Inv n l g D a) (hl : lookL l t = some (r, .bool b)) :
    Ext l ((t, r, .bool b) :: l) ∧ Inv n ((t, r, .bool b) :: l) g D a := by
  have hlook : ∀ s, lookL ((t, r, .bool b) :: l) s = lookL l s := fun s => by
    by_cases hs : t = s
    · subst hs; rw [lookL_cons_eq, hl]
    · exact lookL_cons_ne hs
  have hext : Ext l ((t, r, .bool b) :: l) := by
    refine ⟨fun s => by simp only [bval, hlook], fun q => ?_⟩
    induction q with
    | nil => exact fun _ => trivial
    | cons x q ih => exact fun ⟨⟨c, hc⟩, h⟩ => ⟨⟨c, by rw [hlook]; exact hc⟩, ih h⟩
  refine ⟨hext, hi.size, fun s q v hm => ?_, fun s v hg hn => hi.agG s v hg (by rw [hlook] at hn; exact hn), fun s q v hm => ?_, fun q hq => ?_, fun q hq => hext.2 _ (hi.deadWf q hq)⟩
  · rw [hext.cond]
    rcases List.mem_cons.1 hm with he | he
    · cases he; exact hi.agL _ _ _ (lookL_mem hl)
    · exact hi.agL _ _ _ he
  · rcases List.mem_cons.1 hm with he | he
    · cases he; exact hext.2 _ (hi.wf _ _ _ (lookL_mem hl))
    · exact hext.2 _ (hi.wf _ _ _ he)
  · rw [hext.cond]; exact hi.dead q hq

theorem Inv.kill {n : Nat} {l : Env} {g : Env0} {D : List Path} {a : Act} {p : Path} (hi : Inv n l g D a) (hp : cond l p = false) (hw : WfP l p) : Inv n l g (p :: D) a :=
  ⟨hi.size, hi.agL, hi.agG, hi.wf, fun q hq => (List.mem_cons.1 hq).elim (fun e => e ▸ hp) (hi.dead q),
    fun q hq => (List.mem_cons.1 hq).elim (fun e => e ▸ hw) (hi.deadWf q)⟩

theorem splitK_sound {n : Nat} {g : Env0} {a : Act} : ∀ {p : Path} {l : Env} {D : List Path} {A B : Env → List Path → Prop}, Inv n l g D a → WfP l p → splitK l D p A B →
    (cond l p = true ∧ ∃ l' D', Inv n l' g D' a ∧ Ext l l' ∧ A l' D') ∨ (cond l p = false ∧ ∃ l' D', Inv n l' g D' a ∧ Ext l l' ∧ B l' D')
  | [], l, D, A, B, hi, _, h => .inl ⟨rfl, l, D, hi, Ext.refl l, h⟩
  | (t, w) :: r, l, D, A, B, hi, ⟨⟨b, hb⟩, hw⟩, h => by
    simp only [splitK] at h
    rw [cond_cons]
    rcases splitK_sound hi hw h with ⟨hc, l', D', hi', he, hA⟩ | ⟨hc, l', D', hi', he, hB⟩
    · rw [hc, Bool.and_true, ← he.1 t]
      obtain ⟨⟨b', hb'⟩, hw'⟩ := he.2 ((t, w) :: r) ⟨⟨b, hb⟩, hw⟩
      have hbv : bval l' t = b' := by simp [bval, hb']
      rw [hbv] at hA ⊢
      obtain ⟨hex, hin⟩ := shadow hi' hb'
      have hw2 := hex.2 _ hw'
      have hlook2 : lookL ((t, r, .bool b') :: l') t = some (r, .bool b') := lookL_cons_eq
      have bv2 : bval ((t, r, .bool b') :: l') t = b' := by simp [bval, hlook2]
      cases hl : lit w b' with
      | true =>
        have hbw : b' = w := by cases w <;> cases b' <;> simp_all [lit]
        subst hbw
        refine .inl ⟨rfl, _, ((t, !b') :: r) :: D', hin.kill ?_ ⟨⟨b', hlook2⟩, hw2⟩, he.trans hex, (br_elim hA).1 hl⟩
        rw [cond_cons, bv2]; cases b' <;> rfl
      | false =>
        have hbw : (!w) = b' := by cases w <;> cases b' <;> simp_all [lit]
        subst hbw
        refine .inr ⟨rfl, _, ((t, w) :: r) :: D', hin.kill ?_ ⟨⟨!w, hlook2⟩, hw2⟩, he.trans hex, (br_elim hA).2 hl⟩
        rw [cond_cons, bv2, hl]; rfl
    · rw [hc, Bool.and_false]
      exact .inr ⟨rfl, l', D', hi', he, hB⟩

theorem pickK_sound {P : Program} {n : Nat} {l : Env} {g : Env0} {D : List Path} {act : Act} {p : Path} {o : Oper} {c a b : Operand} {K : Value → Prop} (hi : Inv n l g D act)
    (hop : o.op = .pick c a b) (h : pickK l g D p c a b K) : ∃ v, (cond l p = true → PureAll P o act.eval v) ∧ K v := by
  have run : ∀ x : Bool, act.eval c = .bool x → PureAll P o act.eval (if x then act.eval a else act.eval b) := fun x hx w => by
    simp [execOp, hop, hx, asBool]
  unfold pickK at h
  cases hokc : okIn l g p c with
  | false => simp [hokc] at h
  | true =>
    cases hoka : okPick l g p c true a with
    | false => simp [hokc, hoka] at h
    | true =>
      cases hokb : okPick l g p c false b with
      | false => simp [hokc, hoka, hokb] at h
      | true =>
        simp only [hokc, hoka, hokb] at h
        -- an operand on the way that is taken
        have arm : ∀ (w : Bool) (x : Operand), okPick l g p c w x = true → cond l p = true → act.eval c = .bool w → val l g c = .bool w → act.eval x = val l g x ∧ pickDead l D x = false := by
          intro w x hx hc he hv
          have key : okIn l g p x = true ∨ ∃ t, c = .tmp t ∧ cond l ((t, w) :: p) = true ∧ okIn l g ((t, w) :: p) x = true := by
            simp only [okPick, Bool.or_eq_true] at hx
            rcases hx with hx | hx
            · exact .inl hx
            · cases c with
              | tmp t =>
                simp only [Bool.and_eq_true] at hx
                refine .inr ⟨t, rfl, ?_, hx.2⟩
                cases hl : lookL l t with
                | none => simp [hl] at hx
                | some y =>
                  obtain ⟨q, v⟩ := y
                  simp only [val, look, hl] at hv
                  subst hv
                  rw [cond_cons, hc]
                  simp only [bval, hl]
                  cases w <;> rfl
              | _ => simp at hx
          have hev : act.eval x = val l g x := by
            rcases key with k | ⟨t, _, k1, k2⟩
            · exact eval_val hi k hc
            · exact eval_val hi k2 k1
          refine ⟨hev, ?_⟩
          cases hd : pickDead l D x with
          | false => rfl
          | true =>
            exfalso
            cases x with
            | tmp u =>
              simp only [pickDead] at hd
              cases hl : lookL l u with
              | none => simp [hl] at hd
              | some y =>
                obtain ⟨q, v⟩ := y
                simp only [hl] at hd
                have hq : cond l q = false := isDead_spec hd hi.dead
                have : cond l q = true := by
                  rcases key with k | ⟨t, _, k1, k2⟩
                  · simp only [okIn, look, hl] at k; exact sub_cond k hc
                  · simp only [okIn, look, hl] at k2; exact sub_cond k2 k1
                rw [hq] at this; cases this
            | _ => simp [pickDead] at hd
        have hcv : cond l p = true → act.eval c = val l g c := fun hc => eval_val hi hokc hc
        cases hda : pickDead l D a with
        | true =>
          simp only [hda] at h
          cases hvc : val l g c <;> simp only [hvc] at h <;> try exact h.elim
          case bool x =>
            cases x <;> (try simp only at h) <;> try exact h.elim
            cases hvb : val l g b <;> simp only [hvb] at h <;> try exact h.elim
            case bool z =>
              refine ⟨_, fun hc => ?_, h⟩
              have e1 : act.eval c = .bool false := (hcv hc).trans hvc
              have := run false e1
              rw [if_neg (by simp), (arm false b hokb hc e1 hvc).1, hvb] at this
              exact this
        | false =>
          cases hdb : pickDead l D b with
          | true =>
            simp only [hda, hdb] at h
            cases hvc : val l g c <;> simp only [hvc] at h <;> try exact h.elim
            case bool x =>
              cases x <;> (try simp only at h) <;> try exact h.elim
              cases hva : val l g a <;> simp only [hva] at h <;> try exact h.elim
              case bool y =>
                refine ⟨_, fun hc => ?_, h⟩
                have e1 : act.eval c = .bool true := (hcv hc).trans hvc
                have := run true e1
                rw [if_pos rfl, (arm true a hoka hc e1 hvc).1, hva] at this
                exact this
          | false =>
            simp only [hda, hdb] at h
            cases hvc : val l g c <;> simp only [hvc] at h <;> try exact h.elim
            case bool x =>
              cases hva : val l g a <;> simp only [hva] at h <;> try exact h.elim
              case bool y =>
                cases hvb : val l g b <;> simp only [hvb] at h <;> try exact h.elim
                case bool z =>
                  refine ⟨_, fun hc => ?_, h⟩
                  have e1 : act.eval c = .bool x := (hcv hc).trans hvc
                  have := run x e1
                  cases x with
                  | true => rw [if_pos rfl, (arm true a hoka hc e1 hvc).1, hva] at this; exact this
                  | false => rw [if_neg (by simp), (arm false b hokb hc e1 hvc).1, hvb] at this; exact this

def Fr (S : List Nat) (a0 a : Act) : Prop := (∀ t, t ∉ S → a.tmps[t]? = a0.tmps[t]?) ∧ a.defers = a0.defers
theorem Fr.refl (S : List Nat) (a : Act) : Fr S a a := ⟨fun _ _ => rfl, rfl⟩
theorem Fr.trans {S : List Nat} {a b c : Act} (h : Fr S a b) (k : Fr S b c) : Fr S a c := ⟨fun t ht => (k.1 t ht).trans (h.1 t ht), k.2.trans h.2⟩
theorem Fr.put {S : List Nat} {a0 a : Act} {dst : Option Tmp} (h : Fr S a0 a) (hd : ∀ d, dst = some d → d ∈ S) (u : Value) : Fr S a0 (a.put dst u) := by
  cases dst with
  | none => exact h
  | some d =>
    refine ⟨fun t ht => ?_, h.2⟩
    have : d ≠ t := fun e => ht (e ▸ hd d rfl)
    rw [← h.1 t ht]
    simp [Act.put, Array.getElem?_setIfInBounds_ne this]

theorem exec_semR {P : Program} {o : Oper} {ρ : Operand → Value} {s : Sem Value} {w : World} {v : Value} (hs : semR o ρ = some s) (hr : s.run P w = .ok v w) : (execOp ρ o).run P w = .ok (Next.value v) w := by
  have he : execOp ρ o = (do let x ← s; pure (Next.value x) : Sem Next) := by
    clear hr
    obtain ⟨dst, op, ty, pos, after, guard⟩ := o
    cases op <;> simp only [semR, Option.some.injEq, reduceCtorEq] at hs <;> try (subst hs; rfl)
    case call cl =>
      obtain ⟨callee, args, argTypes⟩ := cl
      cases callee <;> (try (simp [semR, semE] at hs; done))
      case builtin b =>
        cases b <;> simp only [semR, semE, Option.some.injEq, reduceCtorEq] at hs <;> (subst hs; rw [mapA_eq]; rfl)
  rw [he, Sem.run_bind, hr]; rfl
theorem sreadK_sound {P : Program} {o : Oper} {ρ : Operand → Value} {iv : Ivs} {c : Bool} {G : Prop → Prop} {K : Value → Prop}
    {st : List Nat} {ops : Array Oper} {k : Nat} (hst : stI st ops k = true) (hG : ∀ X, G X → (c = true → X)) (hh : sreadK P o ρ iv k G K) : ∃ v, (c = true → PureAt P ((ivP iv st ops).pre k) o ρ v) ∧ K v := by
  cases iv with
  | no => exact hh.elim
  | one I =>
    simp only [sreadK] at hh
    cases hs : semR o ρ with
    | none => rw [hs] at hh; exact hh.elim
    | some s =>
      rw [hs] at hh
      simp only at hh
      obtain ⟨v, g, k⟩ := exSh_some hh
      exact ⟨v, fun hc w hI => exec_semR hs ((hG _ g hc w.heap (hI hst)).run w rfl), k⟩
  | fam F =>
    simp only [sreadK] at hh
    cases hs : semR o ρ with
    | none => rw [hs] at hh; exact hh.elim
    | some s =>
      rw [hs] at hh
      simp only at hh
      obtain ⟨v, g, k⟩ := exSh_some hh
      exact ⟨v, fun hc w hI => exec_semR hs ((hG _ g hc w.heap (hI hst)).run w rfl), k⟩
theorem famAnd_spec {F : Nat → Heap → Prop} {h : Heap} {X : Prop} : ∀ {l : List Nat}, famAnd F h X l → (∀ j ∈ l, F j h) ∧ X
  | [], hh => ⟨fun j hj => (by cases hj), hh⟩
  | i :: l, hh => ⟨fun j hj => by
      rcases List.mem_cons.1 hj with rfl | hj
      · exact hh.1
      · exact (famAnd_spec hh.2).1 j hj, (famAnd_spec hh.2).2⟩
theorem andI_spec {iv : Ivs} {st : List Nat} {ops : Array Oper} {k : Nat} {h : Heap} {X : Prop} (hh : andI iv st ops k h X) : (ivP iv st ops).post k h ∧ X := by
  cases iv with
  | no => exact ⟨trivial, hh⟩
  | one I =>
    simp only [andI] at hh
    cases hf : finB st ops k with
    | false => rw [hf] at hh; exact ⟨fun _ => hh.1, hh.2⟩
    | true => rw [hf] at hh; exact ⟨fun h => (by rw [hf] at h; cases h), hh⟩
  | fam F => exact famAnd_spec hh

/-- what a region carries. -/
def carH (I : Heap → Prop) (st : List Nat) (ops : Array Oper) (listed : Array Bool) (h : Heap) : Prop := (∃ i, listed.getD i true = false ∧ stI st ops i = true) → I h
theorem car_ivP {I : Heap → Prop} {st : List Nat} {ops : Array Oper} {cl : Oper → Cls} : Car (ivP (.one I) st ops) cl .any ops (carH I st ops) where
  pre := fun listed h i o _ hu hH hs => hH ⟨i, hu, hs⟩
  mono := fun listed h i hH ⟨k, hk, hs⟩ => hH ⟨k, by
    by_cases e : i = k
    · subst e
      by_cases hi : i < listed.size
      · simp [hi] at hk
      · simp [hi] at hk
    · rw [getD_set_ne true e] at hk; exact hk, hs⟩
  post := fun listed h i o ho he hr hc hp ⟨k, hk, hs⟩ => by
    cases hf : finB st ops i with
    | false => exact hp hf
    | true =>
      exfalso
      have hne : i ≠ k := fun e => by
        subst e
        by_cases hi : i < listed.size
        · simp [hi] at hk
        · simp [hi] at hk
      rw [getD_set_ne true hne] at hk
      have hk2 := getD_true_false hk
      have hkr : k < ops.size := by
        unfold stI at hs
        cases hk3 : ops[k]? with
        | none => rw [hk3] at hs; cases hs
        | some _ => exact (Array.getElem?_eq_some_iff.1 hk3).1
      unfold finB at hf
      rw [List.all_eq_true] at hf
      have := hf k (List.mem_range.2 hkr)
      rw [hs] at this
      exact dep_not_ready hc hk2 this hr
def carF (F : Nat → Heap → Prop) (st : List Nat) (ops : Array Oper) (listed : Array Bool) (h : Heap) : Prop := ∀ i, listed.getD i true = false → stI st ops i = true → F i h
theorem car_ivF {F : Nat → Heap → Prop} {st : List Nat} {ops : Array Oper} {cl : Oper → Cls} : Car (ivP (.fam F) st ops) cl .any ops (carF F st ops) where
  pre := fun listed h i o _ hu hH hs => hH i hu hs
  mono := fun listed h i hH k hk hs => hH k (by
    by_cases e : i = k
    · subst e
      by_cases hi : i < listed.size
      · simp [hi] at hk
      · simp [hi] at hk
    · rw [getD_set_ne true e] at hk; exact hk) hs
  post := fun listed h i o ho he hr hc hp k hk hs => by
    have hne : i ≠ k := fun e => by
      subst e
      by_cases hi : i < listed.size
      · simp [hi] at hk
      · simp [hi] at hk
    rw [getD_set_ne true hne] at hk
    have hk2 := getD_true_false hk
    have hkr : k < ops.size := by
      unfold stI at hs
      cases hk3 : ops[k]? with
      | none => rw [hk3] at hs; cases hs
      | some _ => exact (Array.getElem?_eq_some_iff.1 hk3).1
    refine hp k (List.mem_filter.2 ⟨List.mem_range.2 hkr, ?_⟩)
    rw [hs]
    cases hf : dep .any ops k ops.size i with
    | false => rfl
    | true => exact absurd hr fun hr => dep_not_ready hc hk2 hf hr

theorem cvK_sound {P : Program} {o : Oper} {ρ : Operand → Value} {h : Heap} {K : Value → Prop} (hh : cvK P o ρ h K) : EffAt P o ρ h fun v h' => h' = h ∧ K v := by
  unfold cvK at hh
  split at hh
  · rename_i s d x hop
    obtain ⟨v, hr, hk⟩ := exSh_some hh
    intro w hw
    have he : execOp ρ o = (do let x ← convert s d (ρ x); pure (Next.value x) : Sem Next) := by simp only [execOp, hop]
    rw [he, Sem.run_bind, hr.run w hw]
    exact ⟨Sane.refl w, hw, hk⟩
  · exact hh.elim

theorem vcOps_sound {P : Program} {iv : Ivs} {st : List Nat} {n : Nat} {ops : Array Oper} {g : Env0} {S : List Nat} {a0 : Act} {Q : Act → Heap → Prop} {K : Env → Heap → Prop}
    (hS : ∀ o ∈ ops.toList, ∀ d, o.dst = some d → d ∈ S) (hQ : ∀ l D a h, Inv n l g D a → Fr S a0 a → K l h → Q a h) :
    ∀ (rest : Tr) (l : Env) (D : List Path) (a : Act) (h : Heap), Inv n l g D a → Fr S a0 a →
      vcOps P iv st n ops g rest l D h K → vTree P (ivP iv st ops) (clsS P st) ops Q rest a h
  | .nil, l, D, a, h, hi, hf, hh => hQ l D a h hi hf hh
  | .fork t u, l, D, a, h, hi, hf, hh => ⟨vcOps_sound hS hQ t l D a h hi hf hh.1, vcOps_sound hS hQ u l D a h hi hf hh.2⟩
  | .cons k rest, l, D, a, h, hi, hf, hh => by
    simp only [vcOps] at hh
    simp only [vTree, vOp]
    cases h0 : ops[k]? with
    | none => rw [h0] at hh; exact hh.elim
    | some o =>
    simp only [h0] at hh
    simp only
    have hmem : o ∈ ops.toList := by
      rw [← Array.getElem?_toList] at h0; exact List.mem_of_getElem? h0
    have next : ∀ (D : List Path) (u : Value) (a : Act) (h : Heap), Fr S a0 a → (∃ l', Inv n l' g D (a.put o.dst u) ∧ vcOps P iv st n ops g rest l' D h K) →
        vTree P (ivP iv st ops) (clsS P st) ops Q rest (a.put o.dst u) h :=
      fun D u a h hf ⟨l', hi', hv⟩ => vcOps_sound hS hQ rest l' D _ h hi' (hf.put (hS o hmem) u) hv
    cases hp : pathOf ops l D o with
    | none => simp [hp] at hh
    | some p =>
      obtain ⟨hwant, hwf⟩ := wanted_iff hi hp
      simp only [hp] at hh
      rw [hwant]
      cases hdead : isDead D p with
      | true =>
        simp only [hdead] at hh
        have hc : cond l p = false := isDead_spec hdead hi.dead
        rw [hc]; simp only [Bool.false_eq_true, if_false]
        exact next D undef a h hf (wr_sound hi hwf (fun h => absurd (hc.symm.trans h) (by decide)) (fun _ => rfl) hh)
      | false =>
        simp only [hdead] at hh
        have look : ∀ v, (cond l p = true → vO P ((ivP iv st ops).pre k) ((ivP iv st ops).post k) (clsS P st o) o a h (vTree P (ivP iv st ops) (clsS P st) ops Q rest) ∨ False) →
            (cond l p = false → wr n l p o.dst v fun l => vcOps P iv st n ops g rest l D h K) →
            (if cond l p = true then vO P ((ivP iv st ops).pre k) ((ivP iv st ops).post k) (clsS P st o) o a h (vTree P (ivP iv st ops) (clsS P st) ops Q rest) else
              vTree P (ivP iv st ops) (clsS P st) ops Q rest (a.put o.dst undef) h) := by
          intro v h1 h2
          cases hc : cond l p with
          | true => simp only [if_true]; exact (h1 hc).resolve_right id
          | false =>
            simp only [Bool.false_eq_true, if_false]
            exact next D undef a h hf (wr_sound hi hwf (fun h => absurd (hc.symm.trans h) (by decide)) (fun _ => rfl) (h2 hc))
        have whenOk : ∀ v, (cond l p = true → vO P ((ivP iv st ops).pre k) ((ivP iv st ops).post k) (clsS P st o) o a h (fun a' h' => a' = a.put o.dst v ∧ h' = h)) →
            (wr n l p o.dst v fun l => vcOps P iv st n ops g rest l D h K) →
            (if cond l p = true then vO P ((ivP iv st ops).pre k) ((ivP iv st ops).post k) (clsS P st o) o a h (vTree P (ivP iv st ops) (clsS P st) ops Q rest) else
              vTree P (ivP iv st ops) (clsS P st) ops Q rest (a.put o.dst undef) h) := by
          intro v h1 hw
          refine look v (fun hc => .inl (vO_mono (X := fun _ => True) trivial (fun _ _ _ => trivial) (fun a' h' _ ⟨e1, e2⟩ => ?_) (h1 hc))) (fun _ => hw)
          subst e1; subst e2
          exact next D v a h' hf (wr_sound hi hwf (fun _ => rfl) (fun h => absurd (hc.symm.trans h) (by decide)) hw)
        obtain ⟨dst, op, ty, pos, after, guard⟩ := o
        have pureC : ∀ {o : Oper}, clsOf P o = .pure → clsS P st o = .pure := fun h => by simp [clsS, h]
        by_cases hpick : ∃ c x y, op = .pick c x y
        · obtain ⟨c, x, y, rfl⟩ := hpick
          simp only at hh
          obtain ⟨v, hv, hw⟩ := pickK_sound (P := P) (o := ⟨dst, .pick c x y, ty, pos, after, guard⟩) hi rfl hh
          exact whenOk v (fun hc => by rw [pureC rfl]; exact ⟨v, (hv hc).at, rfl, rfl⟩) hw
        by_cases hmove : ∃ x, op = .move x
        · obtain ⟨x, rfl⟩ := hmove
          simp only at hh
          obtain ⟨v, hv, hw⟩ := moveK_sound (P := P) (o := ⟨dst, .move x, ty, pos, after, guard⟩) hi (.inl rfl) hh
          exact whenOk v (fun hc => by rw [pureC rfl]; exact ⟨v, (hv hc).at, rfl, rfl⟩) hw
        by_cases hass : ∃ x, op = .assign x
        · obtain ⟨x, rfl⟩ := hass
          simp only at hh
          obtain ⟨v, hv, hw⟩ := moveK_sound (P := P) (o := ⟨dst, .assign x, ty, pos, after, guard⟩) hi (.inr rfl) hh
          exact whenOk v (fun hc => by rw [pureC rfl]; exact ⟨v, (hv hc).at, rfl, rfl⟩) hw
        · have hh2 : (match clsOf P ⟨dst, op, ty, pos, after, guard⟩ with
            | .pure => withRho l g p op.operands.toList fun e => pureK P ⟨dst, op, ty, pos, after, guard⟩ (val [] e) (gd l p) fun v => wr n l p dst v fun l => vcOps P iv st n ops g rest l D h K
            | .read => match isSt st ⟨dst, op, ty, pos, after, guard⟩ with
              | false => withRho l g p op.operands.toList fun e => readK P (shR P ops ⟨dst, op, ty, pos, after, guard⟩) ⟨dst, op, ty, pos, after, guard⟩ (val [] e) h (gd l p) fun v => wr n l p dst v fun l => vcOps P iv st n ops g rest l D h K
              | true => match isCv ⟨dst, op, ty, pos, after, guard⟩ with
                | true => splitK l D p
                  (fun l D => withRho l g p op.operands.toList fun e => cvK P ⟨dst, op, ty, pos, after, guard⟩ (val [] e) h fun v => andI iv st ops k h (wr n l p dst v fun l => vcOps P iv st n ops g rest l D h K))
                  (fun l D => wr n l p dst undef fun l => vcOps P iv st n ops g rest l D h K)
                | false => withRho l g p op.operands.toList fun e => sreadK P ⟨dst, op, ty, pos, after, guard⟩ (val [] e) iv k (gd l p) fun v => wr n l p dst v fun l => vcOps P iv st n ops g rest l D h K
            | .eff => splitK l D p
              (fun l D => withRho l g p op.operands.toList fun e => effK P ⟨dst, op, ty, pos, after, guard⟩ (val [] e) h fun v h => andI iv st ops k h (wr n l p dst v fun l => vcOps P iv st n ops g rest l D h K))
              (fun l D => wr n l p dst undef fun l => vcOps P iv st n ops g rest l D h K)) := by
            cases op <;> first | exact hh | exact absurd ⟨_, _, _, rfl⟩ hpick | exact absurd ⟨_, rfl⟩ hmove | exact absurd ⟨_, rfl⟩ hass
          clear hh
          cases hcl : clsOf P ⟨dst, op, ty, pos, after, guard⟩ with
          | pure =>
            have hcS := pureC hcl
            simp only [hcl] at hh2
            simp only [hcS] at look whenOk ⊢
            obtain ⟨e, hk, h1, h2⟩ := withRho_sound hh2
            obtain ⟨v, hv, hw⟩ := pureK_sound (c := cond l p) (fun X hX => gd_spec hX) hk
            refine whenOk v (fun hc => ⟨v, ?_, rfl, rfl⟩) hw
            have hsel : ∀ cs b, op ≠ .select cs b := fun cs b e => by subst e; simp [clsOf] at hcl
            intro w _
            rw [exec_val hi hsel h1 h2 hc]; exact hv hc w
          | read =>
            have hsel : ∀ cs b, op ≠ .select cs b := fun cs b e => by subst e; simp [clsOf] at hcl
            cases hst : isSt st ⟨dst, op, ty, pos, after, guard⟩ with
            | false =>
              have hcS : clsS P st ⟨dst, op, ty, pos, after, guard⟩ = .read := by simp [clsS, hcl, hst]
              simp only [hcl, hst] at hh2
              simp only [hcS] at look whenOk ⊢
              obtain ⟨e, hk, h1, h2⟩ := withRho_sound hh2
              obtain ⟨v, hv, hw⟩ := readK_sound (c := cond l p) (fun X hX => gd_spec hX) hk
              refine whenOk v (fun hc => ⟨v, ?_, rfl, rfl⟩) hw
              intro w hw
              rw [exec_val hi hsel h1 h2 hc]; exact hv hc w hw
            | true =>
             cases hcv : isCv ⟨dst, op, ty, pos, after, guard⟩ with
             | true =>
              have hcS : clsS P st ⟨dst, op, ty, pos, after, guard⟩ = .eff := by simp [clsS, hcl, hst, hcv]
              simp only [hcl, hst, hcv] at hh2
              simp only [hcS]
              rcases splitK_sound hi hwf hh2 with ⟨hc, l', D', hi', he, hA⟩ | ⟨hc, l', D', hi', he, hB⟩
              · rw [hc]; simp only [if_true]
                obtain ⟨e, hk, h1, h2⟩ := withRho_sound hA
                have hc' : cond l' p = true := by rw [he.cond]; exact hc
                show EffAt P _ a.eval h _
                unfold EffAt
                rw [exec_val hi' hsel h1 h2 hc']
                refine (cvK_sound hk).mono fun v h' hw => ?_
                obtain ⟨rfl, hw⟩ := hw
                obtain ⟨hI', hw⟩ := andI_spec hw
                exact ⟨hI', next D' v a h' hf (wr_sound hi' (he.2 _ hwf) (fun _ => rfl) (fun h => absurd (hc'.symm.trans h) (by decide)) hw)⟩
              · rw [hc]; simp only [Bool.false_eq_true, if_false]
                have hc' : cond l' p = false := by rw [he.cond]; exact hc
                exact next D' undef a h hf (wr_sound hi' (he.2 _ hwf) (fun h => absurd (hc'.symm.trans h) (by decide)) (fun _ => rfl) hB)
             | false =>
              have hcS : clsS P st ⟨dst, op, ty, pos, after, guard⟩ = .pure := by simp [clsS, hcl, hst, hcv]
              simp only [hcl, hst, hcv] at hh2
              simp only [hcS] at look whenOk ⊢
              obtain ⟨e, hk, h1, h2⟩ := withRho_sound hh2
              obtain ⟨v, hv, hw⟩ := sreadK_sound (c := cond l p) (st := st) (ops := ops) (k := k) (by unfold stI; rw [h0]; exact hst) (fun X hX => gd_spec hX) hk
              refine whenOk v (fun hc => ⟨v, ?_, rfl, rfl⟩) hw
              intro w hw
              rw [exec_val hi hsel h1 h2 hc]; exact hv hc w hw
          | eff =>
            have hcS : clsS P st ⟨dst, op, ty, pos, after, guard⟩ = .eff := by simp [clsS, hcl]
            simp only [hcl] at hh2
            simp only [hcS]
            rcases splitK_sound hi hwf hh2 with ⟨hc, l', D', hi', he, hA⟩ | ⟨hc, l', D', hi', he, hB⟩
            · rw [hc]; simp only [if_true]
              obtain ⟨e, hk, h1, h2⟩ := withRho_sound hA
              have hsel : ∀ cs b, op ≠ .select cs b := fun cs b e => by
                subst e
                simp [effK, effK0, semE, semU] at hk
              have hc' : cond l' p = true := by rw [he.cond]; exact hc
              show EffAt P _ a.eval h _
              unfold EffAt
              rw [exec_val hi' hsel h1 h2 hc']
              refine (effK_sound hk).mono fun v h' hw => ?_
              obtain ⟨hI', hw⟩ := andI_spec hw
              exact ⟨hI', next D' v a h' hf (wr_sound hi' (he.2 _ hwf) (fun _ => rfl) (fun h => absurd (hc'.symm.trans h) (by decide)) hw)⟩
            · rw [hc]; simp only [Bool.false_eq_true, if_false]
              have hc' : cond l' p = false := by rw [he.cond]; exact hc
              exact next D' undef a h hf (wr_sound hi' (he.2 _ hwf) (fun h => absurd (hc'.symm.trans h) (by decide)) (fun _ => rfl) hB)
end Go.Vc
end

section
set_option linter.unusedSimpArgs false
set_option linter.unusedVariables false
namespace Go.Vc
open Go

/- ------------------------------------------------------------------ typed relations over slots -/

def ScT : Sc → Type → Type
  | .int _, R => Int → R
  | .bool, R => Bool → R
  | .str, R => ByteArray → R
  | .ptr, R => Option Addr → R
  | .slice, R => Option Addr → Nat → Nat → R
  | .map, R => Option Nat → R
  | .raw, R => Value → R
def ScsT : List Sc → Type → Type
  | [], R => R
  | s :: l, R => ScT s (ScsT l R)
def S1T : S1 → Type → Type
  | .sc s, R => ScT s R
  | .agg l, R => ScsT l R
  | .big, R => Array Value → R
def FnT : List S1 → Type → Type
  | [], R => R
  | s :: l, R => S1T s (FnT l R)

def apSc {R : Type} : (s : Sc) → ScT s R → Value → Option R
  | .int k, f, .int k' n => match eqKind k k' with | true => some (f n) | false => none
  | .bool, f, .bool b => some (f b)
  | .str, f, .string s => some (f s)
  | .ptr, f, .pointer a => some (f a)
  | .slice, f, .slice a n c => some (f a n c)
  | .map, f, .map r => some (f r)
  | .raw, f, v => some (f v)
  | _, _, _ => none
def apScs {R : Type} : (l : List Sc) → ScsT l R → List Value → Option R
  | [], f, [] => some f
  | s :: l, f, v :: vs => match apSc s f v with | some f => apScs l f vs | none => none
  | _, _, _ => none
def apS1 {R : Type} : (s : S1) → S1T s R → Value → Option R
  | .sc s, f, v => apSc s f v
  | .agg l, f, .agg cs => apScs l f cs.toList
  | .big, f, .agg cs => some (f cs)
  | _, _, _ => none
def ap {R : Type} : (l : List S1) → FnT l R → List Value → Option R
  | [], f, [] => some f
  | s :: l, f, v :: vs => match apS1 s f v with | some f => ap l f vs | none => none
  | _, _, _ => none

def alSc : Sc → (Value → Prop) → Prop
  | .int k, K => ∀ n : Int, K (.int k n)
  | .bool, K => ∀ b : Bool, K (.bool b)
  | .str, K => ∀ s : ByteArray, K (.string s)
  | .ptr, K => ∀ a : Option Addr, K (.pointer a)
  | .slice, K => ∀ (a : Option Addr) (n c : Nat), K (.slice a n c)
  | .map, K => ∀ r : Option Nat, K (.map r)
  | .raw, K => ∀ v : Value, K v
def alScs : List Sc → (List Value → Prop) → Prop
  | [], K => K []
  | s :: l, K => alSc s fun v => alScs l fun vs => K (v :: vs)
def alS1 : S1 → (Value → Prop) → Prop
  | .sc s, K => alSc s K
  | .agg l, K => alScs l fun vs => K (.agg vs.toArray)
  | .big, K => ∀ cs : Array Value, K (.agg cs)
def al : List S1 → (List Value → Prop) → Prop
  | [], K => K []
  | s :: l, K => alS1 s fun v => al l fun vs => K (v :: vs)

theorem al_sc {R : Type} {s : Sc} {f : ScT s R} {v : Value} {r : R} {K : Value → Prop} (h : apSc s f v = some r) (hk : alSc s K) : K v := by
  cases s <;> cases v <;> simp only [apSc, reduceCtorEq] at h <;> simp only [alSc] at hk <;> try exact hk _
  case int.int k k' n =>
    cases he : eqKind k k' with
    | true => obtain rfl := eqKind_eq he; exact hk n
    | false => simp [he] at h
  case slice.slice a n c => exact hk a n c
theorem al_scs {R : Type} : ∀ {l : List Sc} {f : ScsT l R} {vs : List Value} {r : R} {K : List Value → Prop}, apScs l f vs = some r → alScs l K → K vs
  | [], f, [], r, K, _, hk => hk
  | [], f, _ :: _, r, K, h, _ => by simp [apScs] at h
  | s :: l, f, [], r, K, h, _ => by simp [apScs] at h
  | s :: l, f, v :: vs, r, K, h, hk => by
    simp only [apScs] at h
    cases hs : apSc s f v with
    | none => simp [hs] at h
    | some f' => simp only [hs] at h; exact al_scs (K := fun vs => K (v :: vs)) h (al_sc hs hk)
theorem al_s1 {R : Type} {s : S1} {f : S1T s R} {v : Value} {r : R} {K : Value → Prop} (h : apS1 s f v = some r) (hk : alS1 s K) : K v := by
  cases s with
  | sc s => exact al_sc h hk
  | agg l =>
    cases v <;> simp only [apS1, reduceCtorEq] at h
    case agg cs => exact al_scs (K := fun vs => K (.agg vs.toArray)) h hk
  | big =>
    cases v <;> simp only [apS1, reduceCtorEq] at h
    case agg cs => exact hk cs
theorem al_all {R : Type} : ∀ {l : List S1} {f : FnT l R} {vs : List Value} {r : R} {K : List Value → Prop}, ap l f vs = some r → al l K → K vs
  | [], f, [], r, K, _, hk => hk
  | [], f, _ :: _, r, K, h, _ => by simp [ap] at h
  | s :: l, f, [], r, K, h, _ => by simp [ap] at h
  | s :: l, f, v :: vs, r, K, h, hk => by
    simp only [ap] at h
    cases hs : apS1 s f v with
    | none => simp [hs] at h
    | some f' => simp only [hs] at h; exact al_all (K := fun vs => K (v :: vs)) h (al_s1 hs hk)

def hp (sh : List S1) (I : FnT sh (Heap → Prop)) (vs : Option (List Value)) (h : Heap) : Prop :=
  match vs with
  | none => False
  | some vs => match ap sh I vs with | some p => p h | none => False
def hn (sh : List S1) (m : FnT sh (Heap → Nat)) (vs : Option (List Value)) (h : Heap) : Nat :=
  match vs with
  | none => 0
  | some vs => match ap sh m vs with | some p => p h | none => 0

theorem hp_al {sh : List S1} {I : FnT sh (Heap → Prop)} {vs : List Value} {h : Heap} {K : List Value → Prop} (hh : hp sh I (some vs) h) (hk : al sh K) : K vs := by
  unfold hp at hh
  simp only at hh
  cases ha : ap sh I vs with
  | none => simp [ha] at hh
  | some p => exact al_all ha hk

/- ------------------------------------------------------------------ code -/

def dsts (ops : Array Oper) : List Nat := ops.toList.filterMap (·.dst)
def asg : Code → List Nat
  | .region _ ops _ => dsts ops
  | .seq a b => asg a ++ asg b
  | .cond _ a b => asg a ++ asg b
  | .block _ c => asg c
  | .loop c => asg c
  | .scope c => asg c
  | _ => []
def firstReg : Code → Option Nat
  | .region id _ _ => some id
  | .seq a b => match firstReg a with | some r => some r | none => firstReg b
  | .block _ c => firstReg c
  | .loop c => firstReg c
  | .scope c => firstReg c
  | _ => none
def isCut (cuts : List Nat) (b : Code) : Bool := match firstReg b with | some r => cuts.contains r | none => false

def scOfV : Value → Sc
  | .int k _ => .int k
  | .bool _ => .bool
  | .string _ => .str
  | .pointer _ => .ptr
  | .slice _ _ _ => .slice
  | .map _ => .map
  | _ => .raw
def s1OfV : Value → S1
  | .agg cs => .agg (cs.toList.map scOfV)
  | v => .sc (scOfV v)

def slots (base : Nat) (S : List Nat) (g : Env0) : List Nat := (List.range base).filter fun t => S.contains t && (lookG g t).isSome
def vals (g : Env0) : List Nat → Option (List Value)
  | [] => some []
  | t :: L => match lookG g t, vals g L with | some v, some vs => some (v :: vs) | _, _ => none
def shs (bigs : List Nat) (g : Env0) (L : List Nat) : List S1 := L.map fun t => match bigs.contains t with
  | true => .big
  | false => match lookG g t with | some v => s1OfV v | none => .sc .raw
def bindG : List Nat → List Value → Env0
  | t :: L, v :: vs => (t, v) :: bindG L vs
  | _, _ => []
def keepG (S : List Nat) : Env0 → Env0
  | [] => []
  | (t, v) :: g => match S.contains t with | true => keepG S g | false => (t, v) :: keepG S g

structure Cfg where
  n : Nat
  base : Nat
  cuts : List Nat := []
  bigs : List Nat := []

/-- holds a range over a function? -/
def hasRF : Code → Bool
  | .seq a b => hasRF a || hasRF b
  | .cond _ a b => hasRF a || hasRF b
  | .block _ c => hasRF c
  | .loop c => hasRF c
  | .scope c => hasRF c
  | .rangeFunc _ _ _ _ => true
  | _ => false
/-- only the machine's own blocks have turned; others may have come. -/
structure Turn (h h' : Heap) : Prop where
  size : h.size ≤ h'.size
  stay : ∀ (q : Nat) (o : Obj), h[q]? = some o → isMark o = false → h'[q]? = some o
theorem Turn.refl (h : Heap) : Turn h h := ⟨Nat.le_refl _, fun _ _ h _ => h⟩
theorem Turn.trans {a b c : Heap} (h : Turn a b) (k : Turn b c) : Turn a c := ⟨Nat.le_trans h.1 k.1, fun q o hq hm => k.2 q o (h.2 q o hq hm) hm⟩
/-- a step of an iterator's own: what was there stays. -/
structure Calm (w w' : World) : Prop where
  tape : w'.tape = w.tape
  os : w'.os = w.os
  output : w'.output = w.output
  size : w.heap.size ≤ w'.heap.size
  block : ∀ b, b < w.heap.size → w'.heap[b]? = w.heap[b]?
theorem Calm.sane {w w' : World} (h : Calm w w') : Sane w w' := ⟨h.tape, h.os, h.output, h.size, fun k o hk _ => by rw [h.block k (Array.getElem?_eq_some_iff.1 hk).1]; exact hk⟩
theorem Calm.turn {w w' : World} (h : Calm w w') : Turn w.heap w'.heap := ⟨h.size, fun k o hk _ => by rw [h.block k (Array.getElem?_eq_some_iff.1 hk).1]; exact hk⟩
theorem Calm.at {w w' : World} (h : Calm w w') {k : Nat} {o : Obj} (hk : w.heap[k]? = some o) : w'.heap[k]? = some o := by rw [h.block k (Array.getElem?_eq_some_iff.1 hk).1]; exact hk
/-- the k-th of a list. -/
structure Nth (xs : List (Option Addr × Nat × Nat)) (k : Nat) (x : Option Addr × Nat × Nat) : Prop where
  eq : xs[k]? = some x
/-- a function value hands on so many slices, one behind the other, as long as C holds of the heap. -/
structure Gives (P : Program) (v : Value) (C : Heap → Prop) (xs : List (Option Addr × Nat × Nat)) : Prop where
  run : ∃ gf lb, v = .func (.func gf) #[] lb ∧ (∀ args w, (callFunc gf args).run P w = .ok (.enter gf args) w) ∧
    ∀ (n l : Nat) (J : Nat → World → Prop) (Jx : World → Prop) (W : World),
      (∀ k W W', J k W → Calm W W' → J k W') → (∀ W W', Jx W → Calm W W' → Jx W') → (∀ k W, J k W → C W.heap) →
      (∀ k x W1, J k W1 → xs[k]? = some x → YieldAt (FW none) n P l #[.slice x.1 x.2.1 x.2.2] W1 fun e W' => (e = .returned (.bool true) ∧ J (k + 1) W') ∨ (e = .returned (.bool false) ∧ Jx W')) →
      J 0 W → Calls P gf (#[.func (.yield l) #[] #[]] ++ lb) W fun e W' => (∃ v, e = .returned v) ∧ (J xs.length W' ∨ Jx W')

def vcC (P : Program) (cf : Cfg) : Code → Env0 → Heap → (Env0 → Heap → Prop) → (Nat → Env0 → Heap → Prop) → (Env0 → Heap → Prop) → Prop
  | .skip, g, h, N, _, _ => N g h
  | .label _, g, h, N, _, _ => N g h
  | .region _ ops draw, g, h, N, _, _ => match !draw || lexB (clsOf P) .any ops with
    | true => vcOps P .no [] cf.n ops g (Tr.ofList (List.range ops.size)) [] [] h fun l h => N (merge l g) h
    | false => match Region.noSelect ops && treeOk (clsS P (stS P ops)) .any ops (mkTr (clsS P (stS P ops)) .any ops ops.size (Array.replicate ops.size false)) false ops.size (Array.replicate ops.size false) with
      | false => False
      | true => match stS P ops with
        | [] => vcOps P .no [] cf.n ops g (mkTr (clsS P []) .any ops ops.size (Array.replicate ops.size false)) [] [] h fun l h => N (merge l g) h
        | st => match famB st ops with
          | false => ∃ I : Heap → Prop, I h ∧ vcOps P (.one I) st cf.n ops g (mkTr (clsS P st) .any ops ops.size (Array.replicate ops.size false)) [] [] h fun l h => N (merge l g) h
          | true => ∃ F : Nat → Heap → Prop, famAnd F h (vcOps P (.fam F) st cf.n ops g (mkTr (clsS P st) .any ops ops.size (Array.replicate ops.size false)) [] [] h fun l h => N (merge l g) h) (stL st ops)
  | .seq a b, g, h, N, X, R => match isCut cf.cuts b with
    | false => vcC P cf a g h (fun g h => vcC P cf b g h N X R) X R
    | true => ∃ J : FnT (shs cf.bigs g (slots cf.base (asg a) g)) (Heap → Prop),
        vcC P cf a g h (fun g' h' => hp _ J (vals g' (slots cf.base (asg a) g)) h') X R ∧
        al (shs cf.bigs g (slots cf.base (asg a) g)) fun vs => ∀ h', hp _ J (some vs) h' →
          vcC P cf b (bindG (slots cf.base (asg a) g) vs ++ keepG (asg a) g) h' N X R
  | .cond c a b, g, h, N, X, R => match c with
    | .tmp t => match lookG g t with
      | some (.bool x) => br x (vcC P cf a ((t, .bool true) :: g) h N X R) (vcC P cf b ((t, .bool false) :: g) h N X R)
      | _ => False
    | .const (.bool x) => br x (vcC P cf a g h N X R) (vcC P cf b g h N X R)
    | _ => False
  | .block id c, g, h, N, X, R => vcC P cf c g h N (fun i g h => match Nat.beq i id with | true => N g h | false => X i g h) R
  | .loop c, g, h, _, X, R => ∃ (I : FnT (shs cf.bigs g (slots cf.base (asg c) g)) (Heap → Prop)) (m : FnT (shs cf.bigs g (slots cf.base (asg c) g)) (Heap → Nat)),
      hp _ I (vals g (slots cf.base (asg c) g)) h ∧
      al (shs cf.bigs g (slots cf.base (asg c) g)) fun vs => ∀ h', hp _ I (some vs) h' →
        vcC P cf c (bindG (slots cf.base (asg c) g) vs ++ keepG (asg c) g) h'
          (fun g2 h2 => hp _ I (vals g2 (slots cf.base (asg c) g)) h2 ∧ hn _ m (vals g2 (slots cf.base (asg c) g)) h2 < hn _ m (some vs) h') X R
  | .exit id, g, h, _, X, _ => X id g h
  | .scope c, g, h, N, X, R => vcC P cf c g h N X R
  | .ret, g, h, _, _, R => R g h
  | .rangeFunc f ps assign body, g, h, N, _, R => match !hasRF assign && !hasRF body, f, ps.toList with
    | true, .tmp t, [p] => match lookG g t, Nat.blt p cf.n with
      | some v, true => ∃ (xs : List (Option Addr × Nat × Nat)) (C : Heap → Prop) (I : Nat → Heap → Prop) (Ir : Heap → Prop), Gives P v C xs ∧ (∀ k h', I k h' → C h') ∧
          (∀ k h' h'', I k h' → Turn h' h'' → I k h'') ∧ (∀ h' h'', Ir h' → Turn h' h'' → Ir h'') ∧ I 0 h ∧
          (∀ (k : Nat) (a : Option Addr) (n c : Nat) (h' : Heap), Nth xs k (a, n, c) → I k h' →
            vcC P cf assign ((p, .slice a n c) :: g) h' (fun g1 h1 => ∀ h1', Turn h1 h1' → vcC P cf body g1 h1' (fun _ h2 => I (k + 1) h2) (fun _ _ _ => False) (fun _ h2 => Ir h2)) (fun _ _ _ => False) (fun _ _ => False)) ∧
          (∀ h', I xs.length h' → N g h') ∧ (∀ h', Ir h' → R g h')
      | _, _ => False
    | _, _, _ => False
  | _, _, _, _, _, _ => False

structure Inv0 (n : Nat) (g : Env0) (a : Act) : Prop where
  size : a.tmps.size = n
  look : ∀ t v, lookG g t = some v → a.tmps[t]? = some v

theorem lookG_del {t u : Nat} {v : Value} : ∀ {g : Env0}, lookG (delG t g) u = some v → u ≠ t ∧ lookG g u = some v
  | [], h => by simp [delG, lookG] at h
  | (s, x) :: g, h => by
    simp only [delG] at h
    cases hb : Nat.beq s t with
    | true =>
      simp only [hb] at h
      obtain ⟨h1, h2⟩ := lookG_del h
      refine ⟨h1, ?_⟩
      have := Nat.eq_of_beq_eq_true hb
      subst this
      simp only [lookG]
      cases hb' : Nat.beq s u with
      | true => exact absurd (Nat.eq_of_beq_eq_true hb').symm h1
      | false => exact h2
    | false =>
      simp only [hb, lookG] at h
      simp only [lookG]
      cases hb' : Nat.beq s u with
      | true =>
        simp only [hb'] at h
        exact ⟨fun e => (by subst e; rw [hb] at hb'; cases hb'), h⟩
      | false =>
        simp only [hb'] at h
        exact lookG_del h

theorem lookG_merge {t : Nat} {v : Value} : ∀ {l : Env} {g : Env0}, lookG (merge l g) t = some v → (t, [], v) ∈ l ∨ (lookG g t = some v ∧ lookL l t = none)
  | [], g, h => .inr ⟨h, rfl⟩
  | (s, [], x) :: l, g, h => by
    simp only [merge, lookG] at h
    cases hb : Nat.beq s t with
    | true =>
      simp only [hb, Option.some.injEq] at h
      subst h
      rw [Nat.eq_of_beq_eq_true hb]
      exact .inl List.mem_cons_self
    | false =>
      simp only [hb] at h
      rcases lookG_merge h with h1 | ⟨h1, h2⟩
      · exact .inl (List.mem_cons_of_mem _ h1)
      · exact .inr ⟨h1, by simp only [lookL, hb]; exact h2⟩
  | (s, x :: p, y) :: l, g, h => by
    simp only [merge] at h
    obtain ⟨h1, h⟩ := lookG_del h
    rcases lookG_merge h with h2 | ⟨h2, h3⟩
    · exact .inl (List.mem_cons_of_mem _ h2)
    · refine .inr ⟨h2, ?_⟩
      simp only [lookL]
      cases hb : Nat.beq s t with
      | true => exact absurd (Nat.eq_of_beq_eq_true hb).symm h1
      | false => exact h3

theorem Inv.merge {n : Nat} {l : Env} {g : Env0} {D : List Path} {a : Act} (hi : Inv n l g D a) : Inv0 n (merge l g) a :=
  ⟨hi.size, fun t v h => by
    rcases lookG_merge h with h | ⟨h1, h2⟩
    · exact (hi.agL _ _ _ h).1 rfl
    · exact hi.agG t v h1 h2⟩

theorem Inv0.toInv {n : Nat} {g : Env0} {a : Act} (hi : Inv0 n g a) : Inv n [] g [] a :=
  ⟨hi.size, fun _ _ _ h => (by cases h), fun t v h _ => hi.look t v h, fun _ _ _ h => (by cases h), fun _ h => (by cases h), fun _ h => (by cases h)⟩

theorem lookG_append {t : Nat} {v : Value} : ∀ {g g' : Env0}, lookG (g ++ g') t = some v → lookG g t = some v ∨ lookG g' t = some v
  | [], _, h => .inr h
  | (s, x) :: g, g', h => by
    simp only [List.cons_append, lookG] at h ⊢
    cases hb : Nat.beq s t with
    | true => simp only [hb] at h; exact .inl h
    | false => simp only [hb] at h; exact lookG_append h
theorem lookG_bind {f : Nat → Value} {t : Nat} {v : Value} : ∀ {L : List Nat}, lookG (bindG L (L.map f)) t = some v → t ∈ L ∧ v = f t
  | [], h => by simp [bindG, lookG] at h
  | s :: L, h => by
    simp only [List.map_cons, bindG, lookG] at h
    cases hb : Nat.beq s t with
    | true =>
      simp only [hb, Option.some.injEq] at h
      rw [Nat.eq_of_beq_eq_true hb] at h ⊢
      exact ⟨List.mem_cons_self, h.symm⟩
    | false =>
      simp only [hb] at h
      exact ⟨List.mem_cons_of_mem _ (lookG_bind h).1, (lookG_bind h).2⟩
theorem lookG_keep {S : List Nat} {t : Nat} {v : Value} : ∀ {g : Env0}, lookG (keepG S g) t = some v → t ∉ S ∧ lookG g t = some v
  | [], h => by simp [keepG, lookG] at h
  | (s, x) :: g, h => by
    simp only [keepG] at h
    cases hS : S.contains s with
    | true =>
      simp only [hS] at h
      obtain ⟨h1, h2⟩ := lookG_keep h
      refine ⟨h1, ?_⟩
      simp only [lookG]
      cases hb : Nat.beq s t with
      | true =>
        rw [Nat.eq_of_beq_eq_true hb] at hS
        exact absurd (by simpa using hS) h1
      | false => exact h2
    | false =>
      simp only [hS, lookG] at h
      simp only [lookG]
      cases hb : Nat.beq s t with
      | true =>
        simp only [hb] at h
        rw [Nat.eq_of_beq_eq_true hb] at hS
        exact ⟨by simpa using hS, h⟩
      | false => simp only [hb] at h; exact lookG_keep h

def actVal (a : Act) (t : Nat) : Value := a.tmps.getD t undef
theorem vals_act {n : Nat} {g : Env0} {a : Act} (hi : Inv0 n g a) : ∀ {L : List Nat} {vs : List Value}, vals g L = some vs → vs = L.map (actVal a)
  | [], vs, h => by simp [vals] at h; exact h
  | t :: L, vs, h => by
    simp only [vals] at h
    cases hl : lookG g t with
    | none => simp [hl] at h
    | some v =>
      cases hv : vals g L with
      | none => simp [hl, hv] at h
      | some vs' =>
        simp only [hl, hv, Option.some.injEq] at h
        subst h
        rw [List.map_cons, ← vals_act hi hv]
        have := hi.look t v hl
        simp [actVal, this]

theorem hp_vals {n : Nat} {g : Env0} {a : Act} {sh : List S1} {I : FnT sh (Heap → Prop)} {L : List Nat} {h : Heap} (hi : Inv0 n g a) (hh : hp sh I (vals g L) h) :
    hp sh I (some (L.map (actVal a))) h := by
  cases hv : vals g L with
  | none => rw [hv] at hh; exact hh.elim
  | some vs => rw [hv, vals_act hi hv] at hh; exact hh
theorem hn_vals {n : Nat} {g : Env0} {a : Act} {sh : List S1} {m : FnT sh (Heap → Nat)} {I : FnT sh (Heap → Prop)} {L : List Nat} {h : Heap} (hi : Inv0 n g a) (hh : hp sh I (vals g L) h) :
    hn sh m (vals g L) h = hn sh m (some (L.map (actVal a))) h := by
  cases hv : vals g L with
  | none => rw [hv] at hh; exact hh.elim
  | some vs => rw [vals_act hi hv]

theorem slots_in {n base : Nat} {S : List Nat} {g : Env0} {a : Act} (hi : Inv0 n g a) {t : Nat} (h : t ∈ slots base S g) : t ∈ S ∧ t < n := by
  unfold slots at h
  rw [List.mem_filter] at h
  simp only [Bool.and_eq_true] at h
  refine ⟨by simpa using h.2.1, ?_⟩
  obtain ⟨v, hv⟩ := Option.isSome_iff_exists.1 h.2.2
  have := hi.look t v hv
  rw [← hi.size]
  exact (Array.getElem?_eq_some_iff.1 this).1

/-- outside S the frame is as it was. -/
def FrT (S : List Nat) (a0 a : Act) : Prop := ∀ t, t ∉ S → a.tmps[t]? = a0.tmps[t]?
theorem FrT.refl (S : List Nat) (a : Act) : FrT S a a := fun _ _ => rfl
theorem FrT.trans {S : List Nat} {a b c : Act} (h : FrT S a b) (k : FrT S b c) : FrT S a c := fun t ht => (k t ht).trans (h t ht)
theorem FrT.mono {S T : List Nat} {a b : Act} (h : FrT S a b) (hs : ∀ t ∈ S, t ∈ T) : FrT T a b := fun t ht => h t fun hS => ht (hs t hS)
def markOf (D : Nat) : Deferred := { target := .collected D, args := #[] }
/-- since w0 all is sane; what is put off is marks of loops, each with a list of no calls. -/
structure Snd (rf : Bool) (w0 : World) (a : Act) (w : World) : Prop where
  sane : Sane w0 w
  none : rf = false → a.defers = []
  marks : ∃ Ds : List Nat, a.defers = Ds.map markOf ∧ Ds.Nodup ∧ ∀ D ∈ Ds, w0.heap.size ≤ D ∧ w.heap[D]? = some (.deferred (some []))
theorem Snd.step {rf : Bool} {w0 w w' : World} {a a' : Act} (h : Snd rf w0 a w) (k : Sane w w') (hd : a'.defers = a.defers) : Snd rf w0 a' w' := by
  obtain ⟨Ds, h1, h2, h3⟩ := h.marks
  exact ⟨h.sane.trans k, fun e => hd.trans (h.none e), Ds, hd.trans h1, h2, fun D hD => ⟨(h3 D hD).1, k.marks D _ (h3 D hD).2 rfl⟩⟩
theorem Inv0.bind {n : Nat} {g : Env0} {a0 a : Act} {S : List Nat} {L : List Nat} (hi : Inv0 n g a0) (hL : ∀ t ∈ L, t < n) (hf : FrT S a0 a) (hs : a.tmps.size = n) :
    Inv0 n (bindG L (L.map (actVal a)) ++ keepG S g) a := by
  refine ⟨hs, fun t v h => ?_⟩
  rcases lookG_append h with h | h
  · obtain ⟨h1, rfl⟩ := lookG_bind h
    have : t < a.tmps.size := by rw [hs]; exact hL t h1
    simp [actVal, this]
  · obtain ⟨h1, h2⟩ := lookG_keep h
    rw [hf t h1]; exact hi.look t v h2

theorem stepR_scope {P : Program} {b : Frame} {a : Act} {k : List Item} {cs : List Frame} {w : World} {c : Code} : step P (lone (b.atR a (.code (.scope c) :: k)) cs w) = .next (lone (b.atR a (.code c :: .inScope c :: k)) cs w) :=
  step_lone_go (by simp [stepG, stepG.exec, Frame.atR])
theorem stepR_inScope {P : Program} {b : Frame} {a : Act} {k : List Item} {cs : List Frame} {w : World} {c : Code} : step P (lone (b.atR a (.inScope c :: k)) cs w) = .next (lone (b.atR a k) cs w) :=
  step_lone_go (by simp [stepG, stepG.exec, Frame.atR])
theorem wpIn_scope_straight {F : Fence} {n : Nat} {P : Program} {Q : Exit → Act → World → Prop} {a : Act} {w : World} {c : Code} (h : c.wpIn F n P (Exit.noGoto Q) a w) : (Code.scope c).wpIn F n P Q a w := by
  intro b k cs hro hb hr
  have h0 : (lone (b.atR a (.code (.scope c) :: k)) cs w).fenced P F := fenced_calm hb hr rfl
  obtain ⟨e, a₁, w₁, hq, harr⟩ := h b (.inScope c :: k) cs hro hb hr
  cases e with
  | normal => exact ⟨.normal, a₁, w₁, hq, .head h0 stepR_scope (StepsIn.trans harr (.one (fenced_calm hb hr rfl) stepR_inScope))⟩
  | exit id =>
    have hx : exitTo id (.inScope c :: k) = exitTo id k := by simp [exitTo]
    exact ⟨.exit id, a₁, w₁, hq, fun k' hk => .head h0 stepR_scope (harr.1 k' (by rw [hx]; exact hk)), fun hr' hk => let ⟨k₁, h1, h2⟩ := harr.2 hr' (by rw [hx]; exact hk); ⟨k₁, h1, .head h0 stepR_scope h2⟩⟩
  | goto l => exact hq.elim
  | ret => exact ⟨_, a₁, w₁, hq, .of_steps (.one h0 stepR_scope) harr⟩
  | panic ch => exact ⟨_, a₁, w₁, hq, .of_steps (.one h0 stepR_scope) harr⟩
  | outgrown => exact ⟨_, a₁, w₁, hq, .of_steps (.one h0 stepR_scope) harr⟩
theorem Sane.putMark {w w' : World} {l : Nat} {o : Obj} (h : Sane w w') (hl : w.heap.size ≤ l) : Sane w (w'.putObj l o) :=
  ⟨h.tape, h.os, h.output, by show _ ≤ (w'.heap.setIfInBounds l o).size; rw [Array.size_setIfInBounds]; exact h.size, fun k o' hk hm => by
    have hlt : k < w.heap.size := (Array.getElem?_eq_some_iff.1 hk).1
    show (w'.heap.setIfInBounds l o)[k]? = _
    rw [Array.getElem?_setIfInBounds_ne (by omega)]; exact h.marks k o' hk hm⟩
theorem Turn.putMark {w : World} {l : Nat} {r o : Obj} (hl : w.heap[l]? = some r) (hm : isMark r = true) : Turn w.heap (w.putObj l o).heap :=
  ⟨by show _ ≤ (w.heap.setIfInBounds l o).size; rw [Array.size_setIfInBounds]; exact Nat.le_refl _, fun q o' hq hm' => by
    by_cases h : l = q
    · subst h; rw [hl] at hq; cases hq; rw [hm] at hm'; cases hm'
    · show (w.heap.setIfInBounds l o)[q]? = _
      rw [Array.getElem?_setIfInBounds_ne h]; exact hq⟩
/-- A RANGE OVER A FUNCTION. -/
theorem rf_case {P : Program} {f : Operand} {ps : Array Tmp} {x y : Code} {p gf : Nat} {lb : Array Value} {xs : List (Option Addr × Nat × Nat)} {C : Heap → Prop} {I : Nat → Heap → Prop} {Ir : Heap → Prop} {a : Act} {w0 w : World} {n : Nat}
    {Q : Exit → Act → World → Prop} (hev : a.eval f = .func (.func gf) #[] lb) (hps : ps = #[p]) (eg : ∀ args w, (callFunc gf args).run P w = .ok (.enter gf args) w)
    (hgv : ∀ (n l : Nat) (J : Nat → World → Prop) (Jx : World → Prop) (W : World),
      (∀ k W W', J k W → Calm W W' → J k W') → (∀ W W', Jx W → Calm W W' → Jx W') → (∀ k W, J k W → C W.heap) →
      (∀ k x W1, J k W1 → xs[k]? = some x → YieldAt (FW none) n P l #[.slice x.1 x.2.1 x.2.2] W1 fun e W' => (e = .returned (.bool true) ∧ J (k + 1) W') ∨ (e = .returned (.bool false) ∧ Jx W')) →
      J 0 W → Calls P gf (#[.func (.yield l) #[] #[]] ++ lb) W fun e W' => (∃ v, e = .returned v) ∧ (J xs.length W' ∨ Jx W'))
    (hs : Snd true w0 a w) (hIC : ∀ k h', I k h' → C h') (hIt : ∀ k h' h'', I k h' → Turn h' h'' → I k h'') (hIrt : ∀ h' h'', Ir h' → Turn h' h'' → Ir h'') (h0 : I 0 w.heap)
    (hround : ∀ (l n1 k : Nat) (ad : Option Addr) (ln cp : Nat) (W : World), xs[k]? = some (ad, ln, cp) → I k W.heap →
      x.wpIn (FW (some l)) n1 P (Exit.then (fun a1 W1 => Sane W W1 ∧ ∀ W2, Turn W1.heap W2.heap → y.wpIn (FW (some l)) n1 P (fun e a' W' => Sane W2 W' ∧ ((e = .normal ∧ I (k + 1) W'.heap) ∨ (e = .ret ∧ Ir W'.heap))) a1 W2) (fun _ _ _ => False))
        { tmps := a.tmps.setIfInBounds p (.slice ad ln cp), defers := [] } W)
    (hN : ∀ a' w', a'.tmps = a.tmps → Snd true w0 a' w' → I xs.length w'.heap → Q .normal a' w')
    (hR : ∀ a' w', a'.tmps = a.tmps → Snd true w0 a' w' → Ir w'.heap → Q .ret a' w') : (Code.rangeFunc f ps x y).wpIn (FW none) n P Q a w := by
  subst hps
  refine wpIn_rangeFunc ?_
  intro fn hfn
  obtain ⟨rec, hrec⟩ : ∃ rec : LoopState → Option Code → Loop, rec = fun st pe => { state := st, pending := pe, fn, tmps := a.tmps, params := #[p], assign := x, body := y, defers := w.heap.size } := ⟨_, rfl⟩
  obtain ⟨W1, hW1⟩ : ∃ W1, (w.alloc (.deferred (some []))).alloc (.loop (rec .ready none)) = W1 := ⟨_, rfl⟩
  have s1 : Sane w W1 := by
    rw [← hW1]
    exact (Sane.push (w := w) (w' := w.alloc (.deferred (some []))) (o := .deferred (some [])) rfl).trans (Sane.push (o := .loop (rec .ready none)) rfl)
  have hL1 : W1.heap[w.heap.size + 1]? = some (.loop (rec .ready none)) := by
    rw [← hW1]
    show ((w.heap.push _).push _)[w.heap.size + 1]? = _
    rw [Array.getElem?_push, if_pos (by simp)]
  have hK1 : W1.heap[w.heap.size]? = some (.deferred (some [])) := by
    rw [← hW1]
    show ((w.heap.push _).push _)[w.heap.size]? = _
    rw [Array.getElem?_push, if_neg (by simp), Array.getElem?_push, if_pos rfl]
  have t1 : Turn w.heap W1.heap := by
    rw [← hW1]
    refine ⟨by show _ ≤ ((w.heap.push _).push _).size; simp; omega, fun q o hq _ => ?_⟩
    have hlt : q < w.heap.size := (Array.getElem?_eq_some_iff.1 hq).1
    show ((w.heap.push _).push _)[q]? = _
    rw [Array.getElem?_push, if_neg (by simp; omega), Array.getElem?_push, if_neg (by omega)]; exact hq
  refine ⟨w.heap.size + 1, [{ target := .collected w.heap.size, args := #[] }], W1, { target := .fn (.func gf) lb, args := #[.func (.yield (w.heap.size + 1)) #[] #[]] }, W1, gf,
    #[.func (.yield (w.heap.size + 1)) #[] #[]] ++ lb, W1, ?_, ?_, fun _ _ => trivial, ?_, fun h => by simp [Fence.wide] at h, ?_⟩
  · rw [← hW1, hrec]; exact run_enterLoop_outer _ _ _ _ _
  · simp only [resolve, rangeCall, hev]
    simp [go_sem]
  · simp [invoke, go_sem, eg]
  refine callsIn_FW ?_
  refine (hgv (n - 1 - 1) (w.heap.size + 1)
    (fun k W => Sane w W ∧ I k W.heap ∧ W.heap[w.heap.size + 1]? = some (.loop (rec .ready none)) ∧ W.heap[w.heap.size]? = some (.deferred (some [])))
    (fun W => Sane w W ∧ Ir W.heap ∧ W.heap[w.heap.size + 1]? = some (.loop (rec .done (some .ret))) ∧ W.heap[w.heap.size]? = some (.deferred (some []))) W1
    (fun k W W' hj hc => ⟨hj.1.trans hc.sane, hIt k _ _ hj.2.1 hc.turn, hc.at hj.2.2.1, hc.at hj.2.2.2⟩)
    (fun W W' hj hc => ⟨hj.1.trans hc.sane, hIrt _ _ hj.2.1 hc.turn, hc.at hj.2.2.1, hc.at hj.2.2.2⟩)
    (fun k W hj => hIC k _ hj.2.1) ?_ ⟨s1, hIt 0 _ _ h0 t1, hL1, hK1⟩).mono ?_
  · rintro k ⟨ad, ln, cp⟩ W ⟨hsw, hi, hl, hk⟩ hx
    have hy := run_yield (P := P) (args := #[.slice ad ln cp]) hl (by rw [hrec]; rfl)
    have hfn' : (rec .ready none).fn = fn := by rw [hrec]
    have hfx : (rec .ready none).assign = x := by rw [hrec]
    have hfy : (rec .ready none).body = y := by rw [hrec]
    have hft : (((rec .ready none).params.zip #[Value.slice ad ln cp]).foldl (fun tmps (t, a) => tmps.setIfInBounds t a) (rec .ready none).tmps) = a.tmps.setIfInBounds p (.slice ad ln cp) := by rw [hrec]; simp
    rw [hfn', hfx, hfy, hft] at hy
    refine ⟨fn, _, x, y, hy, roundIn_of_wpIn hfn (wpIn_mono (hround (w.heap.size + 1) _ k ad ln cp W hx hi) ?_)⟩
    rintro e a1 W2 hq
    cases e with
    | normal =>
      obtain ⟨s2, hb⟩ := hq
      have hl2 := s2.marks _ _ hl rfl
      have hk2 := s2.marks _ _ hk rfl
      have hlt2 : w.heap.size + 1 < W2.heap.size := (Array.getElem?_eq_some_iff.1 hl2).1
      refine ⟨_, run_beginRound hl2 (by rw [hrec]), wpIn_mono (hb _ (Turn.putMark hl2 rfl)) ?_⟩
      have hl3 : (W2.putObj (w.heap.size + 1) (.loop { rec .ready none with state := .busy })).heap[w.heap.size + 1]? = some (.loop { rec .ready none with state := .busy }) := World.putObj_heap_same hlt2
      have hk3 : (W2.putObj (w.heap.size + 1) (.loop { rec .ready none with state := .busy })).heap[w.heap.size]? = some (.deferred (some [])) := (World.putObj_heap_other (by omega)).trans hk2
      have s3 : Sane w (W2.putObj (w.heap.size + 1) (.loop { rec .ready none with state := .busy })) := (hsw.trans s2).putMark (by omega)
      generalize W2.putObj (w.heap.size + 1) (.loop { rec .ready none with state := .busy }) = W3 at hl3 hk3 s3
      rintro e a' W4 ⟨s4, hq⟩
      have hl4 := s4.marks _ _ hl3 rfl
      have hk4 := s4.marks _ _ hk3 rfl
      have hlt4 : w.heap.size + 1 < W4.heap.size := (Array.getElem?_eq_some_iff.1 hl4).1
      rcases hq with ⟨rfl, hi4⟩ | ⟨rfl, hi4⟩
      · refine ⟨_, _, run_endRound none hl4, .inl ⟨rfl, (s3.trans s4).putMark (by omega), hIt _ _ _ hi4 (Turn.putMark hl4 rfl), ?_, (World.putObj_heap_other (by omega)).trans hk4⟩⟩
        rw [World.putObj_heap_same hlt4, hrec]; rfl
      · refine ⟨_, _, run_endRound (some .ret) hl4, .inr ⟨rfl, (s3.trans s4).putMark (by omega), hIrt _ _ hi4 (Turn.putMark hl4 rfl), ?_, (World.putObj_heap_other (by omega)).trans hk4⟩⟩
        rw [World.putObj_heap_same hlt4, hrec]; rfl
    | _ => exact hq.elim
  · have mk : ∀ {W2 : World} {o : Obj}, Sane w W2 → W2.heap[w.heap.size]? = some (.deferred (some [])) →
        Snd true w0 { a with defers := [{ target := .collected w.heap.size, args := #[] }] ++ a.defers } (W2.putObj (w.heap.size + 1) o) := fun {W2 o} h2 hk => by
      obtain ⟨Ds, d1, d2, d3⟩ := hs.marks
      have h3 : Sane w (W2.putObj (w.heap.size + 1) o) := h2.putMark (by omega)
      refine ⟨hs.sane.trans h3, fun e => (by cases e), w.heap.size :: Ds, ?_, List.nodup_cons.2 ⟨fun hm => ?_, d2⟩, fun D hD => ?_⟩
      · show [_] ++ a.defers = _; rw [d1]; rfl
      · have := (Array.getElem?_eq_some_iff.1 (d3 _ hm).2).1; omega
      · rcases List.mem_cons.1 hD with rfl | hD
        · exact ⟨hs.sane.size, (World.putObj_heap_other (by omega)).trans hk⟩
        · exact ⟨(d3 D hD).1, h3.marks D _ (d3 D hD).2 rfl⟩
    rintro e W2 ⟨⟨v, rfl⟩, (⟨hsw, hi, hl, hk⟩ | ⟨hsw, hi, hl, hk⟩)⟩
    · have hr := run_endLoop (P := P) hl (by rw [hrec]; simp)
      refine ⟨_, _, hr, ?_⟩
      have hp : (rec .ready none).pending = none := by rw [hrec]
      rw [hp]
      exact hN _ _ rfl (mk hsw hk) (hIt _ _ _ hi (Turn.putMark hl rfl))
    · have hr := run_endLoop (P := P) hl (by rw [hrec]; simp)
      refine ⟨_, _, hr, ?_⟩
      have hp : (rec .done (some .ret)).pending = some .ret := by rw [hrec]
      rw [hp]
      exact wpIn_ret (hR _ _ rfl (mk hsw hk) (hIrt _ _ hi (Turn.putMark hl rfl)))

theorem vcC_sound {P : Program} {cf : Cfg} (hm : P.follows .mixedOrders = true) :
    ∀ (c : Code) (ro : Option Nat) (n : Nat) (rf : Bool) (w0 : World) (S : List Nat) (a0 : Act) (Q : Exit → Act → World → Prop) (g : Env0) (a : Act) (w : World) (N : Env0 → Heap → Prop) (X : Nat → Env0 → Heap → Prop) (R : Env0 → Heap → Prop),
      (hasRF c = true → ro = none ∧ rf = true) →
      Inv0 cf.n g a → FrT S a0 a → Snd rf w0 a w → (∀ t ∈ asg c, t ∈ S) →
      (∀ g a w, Inv0 cf.n g a → FrT S a0 a → Snd rf w0 a w → N g w.heap → Q .normal a w) →
      (∀ i g a w, Inv0 cf.n g a → FrT S a0 a → Snd rf w0 a w → X i g w.heap → Q (.exit i) a w) →
      (∀ g a w, Inv0 cf.n g a → FrT S a0 a → Snd rf w0 a w → R g w.heap → Q .ret a w) →
      vcC P cf c g w.heap N X R → c.wpIn (FW ro) n P Q a w := by
  intro c
  induction c with
  | skip => exact fun ro n rf w0 S a0 Q g a w N X R _ hi hf hs _ hN _ _ h => wpIn_skip (hN g a w hi hf hs h)
  | label l => exact fun ro n rf w0 S a0 Q g a w N X R _ hi hf hs _ hN _ _ h => wpIn_label (hN g a w hi hf hs h)
  | exit id => exact fun ro n rf w0 S a0 Q g a w N X R _ hi hf hs _ _ hX _ h => wpIn_exit (hX id g a w hi hf hs h)
  | ret => exact fun ro n rf w0 S a0 Q g a w N X R _ hi hf hs _ _ _ hR h => wpIn_ret (hR g a w hi hf hs h)
  | goto l => intro ro n rf w0 S a0 Q g a w N X R _ _ _ _ _ _ _ _ h; exact h.elim
  | refuse l => intro ro n rf w0 S a0 Q g a w N X R _ _ _ _ _ _ _ _ h; exact h.elim
  | rangeFunc f ps x y ihx ihy =>
    intro ro n rf w0 S a0 Q g a w N X R hro hi hf hs hS hN hX hR h
    obtain ⟨rfl, hrf⟩ := hro rfl
    simp only [vcC] at h
    cases hno : !hasRF x && !hasRF y with
    | false => simp [hno] at h
    | true =>
      simp only [hno] at h
      have hnx : hasRF x = false := by cases hx : hasRF x <;> simp [hx] at hno ⊢
      have hny : hasRF y = false := by cases hy : hasRF y <;> simp [hy] at hno ⊢
      cases f with
      | tmp t =>
        cases hps : ps.toList with
        | nil => simp [hps] at h
        | cons p tl =>
          cases tl with
          | cons p2 tl => simp [hps] at h
          | nil =>
            simp only [hps] at h
            cases hl : lookG g t with
            | none => simp [hl] at h
            | some v =>
              cases hpn : Nat.blt p cf.n with
              | false => simp [hl, hpn] at h
              | true =>
                simp only [hl, hpn] at h
                obtain ⟨xs, C, I, Ir, ⟨gf, lb, rfl, eg, hgv⟩, hIC, hIt, hIrt, h0, hbody, hdone, hret⟩ := h
                subst hrf
                refine rf_case (by have := hi.look t _ hl; simp [Act.eval, this]) (Array.toList_inj.1 (by rw [hps])) eg hgv hs hIC hIt hIrt h0 (fun l n1 k ad ln cp W hxk hik => ?_)
                  (fun a' w' ht hs' hh => hN g a' w' ⟨by rw [ht]; exact hi.size, fun s v hv => by rw [ht]; exact hi.look s v hv⟩ (hf.trans fun s _ => by rw [ht]) hs' (hdone _ hh))
                  (fun a' w' ht hs' hh => hR g a' w' ⟨by rw [ht]; exact hi.size, fun s v hv => by rw [ht]; exact hi.look s v hv⟩ (hf.trans fun s _ => by rw [ht]) hs' (hret _ hh))
                have hpl : p < a.tmps.size := by
                  have h1 : p.succ ≤ cf.n := Nat.le_of_ble_eq_true hpn
                  exact Nat.lt_of_lt_of_eq (Nat.lt_of_succ_le h1) hi.size.symm
                have hi' : Inv0 cf.n ((p, .slice ad ln cp) :: g) { tmps := a.tmps.setIfInBounds p (.slice ad ln cp), defers := [] } := ⟨by simp [hi.size], fun s v hv => by
                  simp only [lookG] at hv
                  cases hb : Nat.beq p s with
                  | true =>
                    simp only [hb, Option.some.injEq] at hv
                    subst hv
                    rw [← Nat.eq_of_beq_eq_true hb]; simp [hpl]
                  | false =>
                    simp only [hb] at hv
                    have := Nat.ne_of_beq_eq_false hb
                    show (a.tmps.setIfInBounds p _)[s]? = _
                    rw [Array.getElem?_setIfInBounds_ne this]; exact hi.look s v hv⟩
                refine ihx (some l) n1 false W (asg x) _ _ _ _ W _ _ _ (fun e => by rw [hnx] at e; cases e) hi' (FrT.refl _ _) ⟨Sane.refl _, fun _ => rfl, [], rfl, List.nodup_nil, fun _ h => by cases h⟩ (fun t ht => ht) ?_ (fun _ _ _ _ _ _ _ hh => hh.elim) (fun _ _ _ _ _ _ hh => hh.elim) (hbody k ad ln cp W.heap ⟨hxk⟩ hik)
                intro g1 a1 W1 hi1 _ hs1 hb1
                refine ⟨hs1.sane, fun W2 ht => ?_⟩
                exact ihy (some l) n1 false W2 (asg y) a1 _ g1 a1 W2 _ _ _ (fun e => by rw [hny] at e; cases e) hi1 (FrT.refl _ _) ⟨Sane.refl _, fun _ => hs1.none rfl, [], by rw [hs1.none rfl]; rfl, List.nodup_nil, fun _ h => by cases h⟩ (fun t ht => ht)
                  (fun g' a' W' _ _ hs' hh => ⟨hs'.sane, .inl ⟨rfl, hh⟩⟩) (fun _ _ _ _ _ _ _ hh => hh.elim) (fun g' a' W' _ _ hs' hh => ⟨hs'.sane, .inr ⟨rfl, hh⟩⟩) (hb1 _ ht)
      | _ => simp at h
  | region id ops draw =>
    intro ro n rf w0 S a0 Q g a w N X R hro hi hf hs hS hN _ _ h
    simp only [vcC] at h
    have fin : ∀ a' w', Sane w w' → (∃ g', Inv0 cf.n g' a' ∧ Fr S a a' ∧ N g' w'.heap) → Q .normal a' w' := fun a' w' hs' ⟨g', h1, h2, h3⟩ => hN g' a' w' h1 (hf.trans h2.1) (hs.step hs' h2.2) h3
    have sound : ∀ (iv : Ivs) (st : List Nat) (t : Tr), vcOps P iv st cf.n ops g t [] [] w.heap (fun l h => N (merge l g) h) →
        vTree P (ivP iv st ops) (clsS P st) ops (fun a' h => ∃ g', Inv0 cf.n g' a' ∧ Fr S a a' ∧ N g' h) t a w.heap := fun iv st t h =>
      vcOps_sound (P := P) (n := cf.n) (ops := ops) (g := g) (S := S) (a0 := a) (Q := fun a' h => ∃ g', Inv0 cf.n g' a' ∧ Fr S a a' ∧ N g' h)
        (fun o ho d hd => hS d (List.mem_filterMap.2 ⟨o, ho, hd⟩))
        (fun l D a h hi hf hk => ⟨_, hi.merge, hf, hk⟩) t [] [] a w.heap hi.toInv (Fr.refl _ _) h
    have c0 : clsS P [] = clsOf P := by
      funext o
      have : isSt [] o = false := by unfold isSt; split <;> rfl
      unfold clsS
      rw [this]
      cases clsOf P o <;> rfl
    cases hd : !draw || lexB (clsOf P) .any ops with
    | false =>
      simp only [hd] at h
      cases draw with
      | false => simp at hd
      | true =>
        cases ht : Region.noSelect ops && treeOk (clsS P (stS P ops)) .any ops (mkTr (clsS P (stS P ops)) .any ops ops.size (Array.replicate ops.size false)) false ops.size (Array.replicate ops.size false) with
        | false => simp [ht] at h
        | true =>
          simp only [ht] at h
          rw [Bool.and_eq_true] at ht
          cases hst : stS P ops with
          | nil =>
            rw [hst] at ht h
            simp only at h
            exact wp_region_tree (J := J0) (cl := clsS P []) car0 hm ht.1 ht.2 fin trivial (sound .no [] _ h)
          | cons d ds =>
            rw [hst] at ht h
            simp only at h
            cases hfb : famB (d :: ds) ops with
            | false =>
              simp only [hfb] at h
              obtain ⟨I, hI, h⟩ := h
              exact wp_region_tree (J := ivP (.one I) (d :: ds) ops) (cl := clsS P (d :: ds)) car_ivP hm ht.1 ht.2 fin (fun _ => hI) (sound (.one I) (d :: ds) _ h)
            | true =>
              simp only [hfb] at h
              obtain ⟨F, h⟩ := h
              obtain ⟨hF, h⟩ := famAnd_spec h
              refine wp_region_tree (J := ivP (.fam F) (d :: ds) ops) (cl := clsS P (d :: ds)) car_ivF hm ht.1 ht.2 fin (fun i hi hs => hF i (List.mem_filter.2 ⟨List.mem_range.2 ?_, hs⟩)) (sound (.fam F) (d :: ds) _ h)
              unfold stI at hs
              cases hk3 : ops[i]? with
              | none => rw [hk3] at hs; cases hs
              | some _ => exact (Array.getElem?_eq_some_iff.1 hk3).1
    | true =>
      simp only [hd] at h
      have hops := vList_of_tree _ _ _ (sound .no [] _ h)
      rw [c0] at hops
      cases draw with
      | false => exact wp_region_seq (cl := clsOf P) fin hops
      | true => exact wp_region_lex (cl := clsOf P) hm (by simpa using hd) fin hops
  | scope c ih =>
    intro ro n rf w0 S a0 Q g a w N X R hro hi hf hs hS hN hX hR h
    exact wpIn_scope_straight (ih ro n rf w0 S a0 _ g a w N X R hro hi hf hs hS hN hX hR h)
  | block id c ih =>
    intro ro n rf w0 S a0 Q g a w N X R hro hi hf hs hS hN hX hR h
    refine wpIn_block (ih ro n rf w0 S a0 _ g a w N _ R hro hi hf hs hS hN (fun i g a w h1 h2 h3 h4 => ?_) hR h)
    show Exit.inBlock id Q (.exit i) a w
    simp only [Exit.inBlock]
    cases hb : Nat.beq i id with
    | true =>
      simp only [hb] at h4
      rw [if_pos (Nat.eq_of_beq_eq_true hb)]; exact hN g a w h1 h2 h3 h4
    | false =>
      simp only [hb] at h4
      rw [if_neg (Nat.ne_of_beq_eq_false hb)]; exact hX i g a w h1 h2 h3 h4
  | cond c x y ihx ihy =>
    intro ro n rf w0 S a0 Q g a w N X R hro hi hf hs hS hN hX hR h
    have hx : ∀ t ∈ asg x, t ∈ S := fun t ht => hS t (List.mem_append_left _ ht)
    have hy : ∀ t ∈ asg y, t ∈ S := fun t ht => hS t (List.mem_append_right _ ht)
    have hrx : hasRF x = true → ro = none ∧ rf = true := fun e => hro (by simp [hasRF, e])
    have hry : hasRF y = true → ro = none ∧ rf = true := fun e => hro (by simp [hasRF, e])
    cases c with
    | tmp t =>
      simp only [vcC] at h
      cases hl : lookG g t with
      | none => simp [hl] at h
      | some v =>
        cases v <;> simp [hl] at h
        case bool b =>
          have ht := hi.look t _ hl
          have he : a.eval (.tmp t) = .bool b := by simp [Act.eval, ht]
          have hi' : ∀ b', b = b' → Inv0 cf.n ((t, .bool b') :: g) a := fun b' e => ⟨hi.size, fun s v hv => by
            subst e
            simp only [lookG] at hv
            cases hb : Nat.beq t s with
            | true =>
              simp only [hb, Option.some.injEq] at hv
              rw [← Nat.eq_of_beq_eq_true hb, ← hv]; exact ht
            | false => simp only [hb] at hv; exact hi.look s v hv⟩
          exact wpIn_cond_split he (fun e => ihx ro n rf w0 S a0 Q _ a w N X R hrx (hi' _ e) hf hs hx hN hX hR ((br_elim h).1 e))
            (fun e => ihy ro n rf w0 S a0 Q _ a w N X R hry (hi' _ e) hf hs hy hN hX hR ((br_elim h).2 e))
    | const v =>
      simp only [vcC] at h
      cases v <;> simp at h
      case bool b =>
        exact wpIn_cond_split (t := b) rfl (fun e => ihx ro n rf w0 S a0 Q _ a w N X R hrx hi hf hs hx hN hX hR ((br_elim h).1 e))
          (fun e => ihy ro n rf w0 S a0 Q _ a w N X R hry hi hf hs hy hN hX hR ((br_elim h).2 e))
    | _ => simp [vcC] at h
  | seq x y ihx ihy =>
    intro ro n rf w0 S a0 Q g a w N X R hro hi hf hs hS hN hX hR h
    have hx : ∀ t ∈ asg x, t ∈ S := fun t ht => hS t (List.mem_append_left _ ht)
    have hy : ∀ t ∈ asg y, t ∈ S := fun t ht => hS t (List.mem_append_right _ ht)
    have hrx : hasRF x = true → ro = none ∧ rf = true := fun e => hro (by simp [hasRF, e])
    have hry : hasRF y = true → ro = none ∧ rf = true := fun e => hro (by simp [hasRF, e])
    simp only [vcC] at h
    refine wpIn_seq ?_
    cases hc : isCut cf.cuts y with
    | false =>
      simp only [hc] at h
      exact ihx ro n rf w0 S a0 _ g a w _ X R hrx hi hf hs hx (fun g a w h1 h2 h3 h4 => ihy ro n rf w0 S a0 Q g a w N X R hry h1 h2 h3 hy hN hX hR h4) hX hR h
    | true =>
      simp only [hc] at h
      obtain ⟨J, h1, h2⟩ := h
      have hL : ∀ t ∈ slots cf.base (asg x) g, t < cf.n := fun t ht => (slots_in hi ht).2
      refine ihx ro n rf w0 (asg x) a _ g a w _ X R hrx hi (FrT.refl _ _) hs (fun t ht => ht) (fun g' a' w' k1 k2 k3 k4 => ?_)
        (fun i g a w k1 k2 k3 k4 => hX i g a w k1 (hf.trans (k2.mono hx)) k3 k4) (fun g a w k1 k2 k3 k4 => hR g a w k1 (hf.trans (k2.mono hx)) k3 k4) h1
      have hh := hp_vals k1 k4
      exact ihy ro n rf w0 S a0 Q _ a' w' N X R hry (hi.bind hL k2 k1.size) (hf.trans (k2.mono hx)) k3 hy hN hX hR (hp_al hh h2 _ hh)
  | loop c ih =>
    intro ro n rf w0 S a0 Q g a w N X R hro hi hf hs hS hN hX hR h
    simp only [vcC] at h
    obtain ⟨I, m, h1, h2⟩ := h
    have hL : ∀ t ∈ slots cf.base (asg c) g, t < cf.n := fun t ht => (slots_in hi ht).2
    refine wpIn_loop (fun a' w' => a'.tmps.size = cf.n ∧ FrT (asg c) a a' ∧ Snd rf w0 a' w' ∧ hp _ I (some ((slots cf.base (asg c) g).map (actVal a'))) w'.heap)
      (fun a' w' => hn _ m (some ((slots cf.base (asg c) g).map (actVal a'))) w'.heap) ⟨hi.size, FrT.refl _ _, hs, hp_vals hi h1⟩ ?_
    intro a1 w1 ⟨k1, k2, k3, k4⟩
    refine ih ro n rf w0 (asg c) a1 _ _ a1 w1 _ X R hro (hi.bind hL k2 k1) (FrT.refl _ _) k3 (fun t ht => ht) (fun g' a' w' q1 q2 q3 q4 => ?_)
      (fun i g a' w q1 q2 q3 q4 => hX i g a' w q1 (hf.trans ((k2.trans q2).mono hS)) q3 q4) (fun g a' w q1 q2 q3 q4 => hR g a' w q1 (hf.trans ((k2.trans q2).mono hS)) q3 q4)
      (hp_al k4 h2 _ k4)
    refine ⟨⟨q1.size, k2.trans q2, q3, hp_vals q1 q4.1⟩, ?_⟩
    rw [← hn_vals (m := m) q1 q4.1]
    exact q4.2

/- ------------------------------------------------------------------ a call -/

def resVals (P : Program) : List ResultVar → Env0 → Heap → (List Value → Prop) → Prop
  | [], _, _, K => K []
  | .tmp t :: r, g, h, K => match lookG g t with
    | some v => resVals P r g h fun vs => K (v :: vs)
    | none => False
  | .cell t ty :: r, g, h, K => match lookG g t with
    | some (.pointer (some p)) => exS1 (s1Of P ty) fun v => Reads P (loadVar ty p) h v ∧ resVals P r g h fun vs => K (v :: vs)
    | _ => False
def one (vs : List Value) : Value := match vs with | [v] => v | vs => .tuple vs.toArray
def argG : Nat → List Value → Env0
  | _, [] => []
  | k, v :: vs => (k, v) :: argG (k + 1) vs

/-- what a call of f comes to. -/
def vcF (P : Program) (fn : Func) (base : Nat) (cuts bigs : List Nat) (args : List Value) (h : Heap) (R : Value → Heap → Prop) : Prop :=
  match fn.body with
  | none => False
  | some c => match Nat.ble args.length fn.ntmps with
    | false => False
    | true => match hasRF c with
      | false => vcC P { n := fn.ntmps, base, cuts, bigs } c (argG 0 args) h
        (fun g h => resVals P fn.results.toList g h fun vs => R (one vs) h) (fun _ _ _ => False) (fun g h => resVals P fn.results.toList g h fun vs => R (one vs) h)
      | true => vcC P { n := fn.ntmps, base, cuts, bigs } c (argG 0 args) h
        (fun g h1 => ∀ h, Turn h1 h → resVals P fn.results.toList g h fun vs => R (one vs) h) (fun _ _ _ => False) (fun g h1 => ∀ h, Turn h1 h → resVals P fn.results.toList g h fun vs => R (one vs) h)

theorem lookG_arg {t : Nat} {v : Value} : ∀ {l : List Value} {k : Nat}, lookG (argG k l) t = some v → ∃ j, t = k + j ∧ l[j]? = some v
  | [], k, h => by simp [argG, lookG] at h
  | x :: l, k, h => by
    simp only [argG, lookG] at h
    cases hb : Nat.beq k t with
    | true =>
      simp only [hb, Option.some.injEq] at h
      exact ⟨0, (Nat.eq_of_beq_eq_true hb).symm, by simp [h]⟩
    | false =>
      simp only [hb] at h
      obtain ⟨j, rfl, hj⟩ := lookG_arg h
      exact ⟨j + 1, by omega, by simpa using hj⟩

def resOf (tmps : Array Value) : ResultVar → Sem Value
  | .tmp t => pure (tmps.getD t undef)
  | .cell a t => do loadVar t (← asAddr (tmps.getD a undef))

theorem resVals_run {P : Program} {n : Nat} {g : Env0} {a : Act} {w : World} (hi : Inv0 n g a) : ∀ {rs : List ResultVar} {K : List Value → Prop}, resVals P rs g w.heap K →
    ∃ vs, (rs.mapM (resOf a.tmps)).run P w = .ok vs w ∧ K vs
  | [], K, h => ⟨[], by simp, h⟩
  | .tmp t :: rs, K, h => by
    simp only [resVals] at h
    cases hl : lookG g t with
    | none => simp [hl] at h
    | some v =>
      simp only [hl] at h
      obtain ⟨vs, h1, h2⟩ := resVals_run hi h
      refine ⟨v :: vs, ?_, h2⟩
      have := hi.look t v hl
      have e : a.tmps.getD t undef = v := by simp [this]
      have e1 : (resOf a.tmps (.tmp t)).run P w = .ok v w := by show Result.ok (a.tmps.getD t undef) w = _; rw [e]
      rw [List.mapM_cons]
      simp only [Sem.run_bind, Sem.run_pure, Result.andThen_ok, h1, e1]
  | .cell t ty :: rs, K, h => by
    simp only [resVals] at h
    cases hl : lookG g t with
    | none => simp [hl] at h
    | some v =>
      simp only [hl] at h
      cases v <;> (try simp only at h) <;> try exact h.elim
      case pointer p =>
        cases p with
        | none => exact h.elim
        | some p =>
          obtain ⟨v, hr, h⟩ := exS1_some h
          obtain ⟨vs, h1, h2⟩ := resVals_run hi h
          refine ⟨v :: vs, ?_, h2⟩
          have := hi.look t _ hl
          have e : a.tmps.getD t undef = .pointer (some p) := by simp [this]
          have e1 : (resOf a.tmps (.cell t ty)).run P w = .ok v w := by
            have := hr.run w rfl
            simp only [resOf, e, asAddr]
            exact this
          rw [List.mapM_cons]
          simp only [Sem.run_bind, Sem.run_pure, Result.andThen_ok, h1, e1]

theorem HC_of_vc {P : Program} {f : FuncId} {fn : Func} {base : Nat} {cuts bigs : List Nat} {args : List Value} {h : Heap} {R : Value → Heap → Prop}
    (hm : P.follows .mixedOrders = true) (hf : P.funcs[f]? = some fn) (hh : vcF P fn base cuts bigs args h R) : HC P f args.toArray h R := by
  unfold vcF at hh
  refine ⟨?_⟩
  intro w hw
  cases hb : fn.body with
  | none => simp [hb] at hh
  | some c =>
    simp only [hb] at hh
    cases hlen : Nat.ble args.length fn.ntmps with
    | false => simp [hlen] at hh
    | true =>
      simp only [hlen] at hh
      have hlen' := Nat.le_of_ble_eq_true hlen
      subst hw
      have start : ∀ rf, Snd rf w { tmps := args.toArray ++ Array.replicate (fn.ntmps - args.toArray.size) undef, defers := [] } w := fun rf => ⟨Sane.refl _, fun _ => rfl, [], rfl, List.nodup_nil, fun _ h => by cases h⟩
      have inv : Inv0 fn.ntmps (argG 0 args) { tmps := args.toArray ++ Array.replicate (fn.ntmps - args.toArray.size) undef, defers := [] } := by
        refine ⟨by simp; omega, fun t v hv => ?_⟩
        obtain ⟨j, rfl, hj⟩ := lookG_arg hv
        have hlt : j < args.length := (List.getElem?_eq_some_iff.1 hj).1
        rw [Nat.zero_add, Array.getElem?_append_left (by simpa using hlt)]
        simpa using hj
      have res : ∀ {g : Env0} {a : Act} {w' : World}, Inv0 fn.ntmps g a → (resVals P fn.results.toList g w'.heap fun vs => R (one vs) w'.heap) → ∃ vs, (results fn a.tmps).run P w' = .ok (one vs) w' ∧ R (one vs) w'.heap := fun {g a w'} k1 k4 => by
        obtain ⟨vs, r1, r2⟩ := resVals_run k1 k4
        refine ⟨vs, ?_, r2⟩
        have e0 : results fn a.tmps = (do let vs ← fn.results.mapM (resOf a.tmps); pure (if h : vs.size = 1 then vs[0] else .tuple vs) : Sem Value) := by
          unfold results
          congr 1
        rw [e0, Array.mapM_eq_mapM_toList]
        simp only [Sem.run_bind, Sem.run_map, r1, Result.andThen_ok, Sem.run_pure]
        congr 1
        unfold one
        cases vs with
        | nil => rfl
        | cons v vs => cases vs <;> rfl
      cases hrf : hasRF c with
      | false =>
        simp only [hrf] at hh
        refine calls_of_wp hf hb (wpIn_wide (n := 0).1 ?_)
        have ret : ∀ (e : Exit), (e = .normal ∨ e = .ret) → ∀ g a w', Inv0 fn.ntmps g a → FrT (asg c) { tmps := args.toArray ++ Array.replicate (fn.ntmps - args.toArray.size) undef, defers := [] } a → Snd false w a w' →
            (resVals P fn.results.toList g w'.heap fun vs => R (one vs) w'.heap) → bodyPost P fn (fun e w' => ∃ v, e = .returned v ∧ Sane w w' ∧ R v w'.heap) e a w' := by
          intro e he g a w' k1 k2 k3 k4
          obtain ⟨vs, hres, r2⟩ := res k1 k4
          rcases he with rfl | rfl <;> exact ⟨k3.none rfl, _, hres, _, rfl, k3.sane, r2⟩
        exact vcC_sound hm c none 0 false w (asg c) _ _ _ _ w _ _ _ (fun e => by rw [hrf] at e; cases e) inv (FrT.refl _ _) (start false) (fun t ht => ht) (ret .normal (.inl rfl)) (fun _ _ _ _ _ _ _ hf => hf.elim) (ret .ret (.inr rfl)) hh
      | true =>
        simp only [hrf] at hh
        refine (callsIn_wide (n := 0)).1 (callsIn_of_wp_marks hf hb trivial ?_)
        have ret : ∀ (e : Exit), (e = .normal ∨ e = .ret) → ∀ g a w', Inv0 fn.ntmps g a → FrT (asg c) { tmps := args.toArray ++ Array.replicate (fn.ntmps - args.toArray.size) undef, defers := [] } a → Snd true w a w' →
            (∀ h, Turn w'.heap h → resVals P fn.results.toList g h fun vs => R (one vs) h) → bodyPostM Fence.wide 0 P fn (fun e w' => ∃ v, e = .returned v ∧ Sane w w' ∧ R v w'.heap) e a w' := by
          intro e he g a w' k1 k2 k3 k4
          obtain ⟨Ds, d1, d2, d3⟩ := k3.marks
          have key : ∀ (Ds : List Nat) (w2 : World), Ds.Nodup → (∀ D ∈ Ds, w.heap.size ≤ D ∧ w2.heap[D]? = some (.deferred (some []))) → Sane w w2 → Turn w'.heap w2.heap →
              LeavesInM Fence.wide 0 P fn a.tmps (fun e w' => ∃ v, e = .returned v ∧ Sane w w' ∧ R v w'.heap) (Ds.map markOf) .returning w2 := by
            intro Ds
            induction Ds with
            | nil =>
              intro w2 _ _ hs ht
              obtain ⟨vs, hres, r2⟩ := res k1 (k4 _ ht)
              exact ⟨_, hres, _, rfl, hs, r2⟩
            | cons D Ds ih =>
              intro w2 hnd hD hs ht
              have hnd' := List.nodup_cons.1 hnd
              obtain ⟨hD1, hD2⟩ := hD D List.mem_cons_self
              refine ⟨by simp, .inl ⟨D, _, rfl, run_takeDeferred hD2, ih _ hnd'.2 (fun E hE => ⟨(hD E (List.mem_cons_of_mem _ hE)).1, (World.putObj_heap_other (fun e => by subst e; exact hnd'.1 hE)).trans (hD E (List.mem_cons_of_mem _ hE)).2⟩) (hs.putMark hD1) (ht.trans (Turn.putMark hD2 rfl))⟩⟩
          have := key Ds w' d2 d3 k3.sane (Turn.refl _)
          rw [← d1] at this
          rcases he with rfl | rfl <;> exact this
        exact vcC_sound hm c none 0 true w (asg c) _ _ _ _ w _ _ _ (fun _ => ⟨rfl, rfl⟩) inv (FrT.refl _ _) (start true) (fun t ht => ht) (ret .normal (.inl rfl)) (fun _ _ _ _ _ _ _ hf => hf.elim) (ret .ret (.inr rfl)) hh
end Go.Vc
end
