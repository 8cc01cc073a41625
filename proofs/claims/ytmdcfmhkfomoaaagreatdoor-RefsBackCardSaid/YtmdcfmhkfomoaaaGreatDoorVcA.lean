/-
  A region's operations over heaps alone, in the order of the text: what holds of that one order holds of every order that the region's edges allow. Conditions: none.
-/
import Derived.Orders
import Derived.OrdersIn
import Derived.ControlIn
namespace Go.Vc
open Go

abbrev Heap := Array Obj

/-- blocks that the machine keeps for itself: a loop's record, a list of deferred calls. -/
def isMark : Obj → Bool
  | .loop _ => true
  | .deferred _ => true
  | _ => false
/-- all but the heap and the count of draws is as it was; of the heap the machine's own blocks are. -/
structure Sane (w w' : World) : Prop where
  tape : w'.tape = w.tape
  os : w'.os = w.os
  output : w'.output = w.output
  size : w.heap.size ≤ w'.heap.size
  marks : ∀ (k : Nat) (o : Obj), w.heap[k]? = some o → isMark o = true → w'.heap[k]? = some o

theorem Sane.refl (w : World) : Sane w w := ⟨rfl, rfl, rfl, Nat.le_refl _, fun _ _ h _ => h⟩
theorem Sane.trans {a b c : World} (h : Sane a b) (k : Sane b c) : Sane a c :=
  ⟨k.tape.trans h.tape, k.os.trans h.os, k.output.trans h.output, Nat.le_trans h.size k.size, fun i o hi hm => k.marks i o (h.marks i o hi hm) hm⟩
theorem Sane.same {w w' : World} (e : w'.heap = w.heap) (t : w'.tape = w.tape := by rfl) (s : w'.os = w.os := by rfl) (u : w'.output = w.output := by rfl) : Sane w w' :=
  ⟨t, s, u, by rw [e]; exact Nat.le_refl _, fun k o h _ => by rw [e]; exact h⟩
theorem Sane.push {w w' : World} {o : Obj} (e : w'.heap = w.heap.push o) (t : w'.tape = w.tape := by rfl) (s : w'.os = w.os := by rfl) (u : w'.output = w.output := by rfl) : Sane w w' :=
  ⟨t, s, u, by rw [e]; simp, fun k o h _ => by
    have hk : k < w.heap.size := (Array.getElem?_eq_some_iff.1 h).1
    rw [e, Array.getElem?_push, if_neg (by omega)]; exact h⟩
/-- one block turns, which is none of the machine's own. -/
theorem Sane.turn {w w' : World} {r : Nat} {o : Obj} (hb : w.heap[r]? = some o) (hm : isMark o = false) (z : w.heap.size ≤ w'.heap.size) (e : ∀ k, k < w.heap.size → k ≠ r → w'.heap[k]? = w.heap[k]?)
    (t : w'.tape = w.tape := by rfl) (s : w'.os = w.os := by rfl) (u : w'.output = w.output := by rfl) : Sane w w' :=
  ⟨t, s, u, z, fun k o' h hm' => by
    by_cases hk : k = r
    · subst hk; rw [hb] at h; cases h; rw [hm] at hm'; cases hm'
    · rw [e k (Array.getElem?_eq_some_iff.1 h).1 hk]; exact h⟩
theorem Sane.set {w w' : World} {r : Nat} {o o' : Obj} (hb : w.heap[r]? = some o) (hm : isMark o = false) (e : w'.heap = w.heap.setIfInBounds r o')
    (t : w'.tape = w.tape := by rfl) (s : w'.os = w.os := by rfl) (u : w'.output = w.output := by rfl) : Sane w w' :=
  Sane.turn hb hm (by rw [e]; simp) (fun k _ hk => by rw [e, Array.getElem?_setIfInBounds_ne (Ne.symm hk)]) t s u

/-- the wide fence, in a round of a loop or in none. -/
abbrev FW (ro : Option Nat) : Fence := { Fence.wide with round := ro }
theorem noDefer {P : Program} {o : Oper} {ρ : Operand → Value} {w w' : World} {n : Next} (h : (execOp ρ o).run P w = .ok n w') (hn : ∀ d, n ≠ .defer d) : ∀ c, o.op ≠ .defer c := fun c hc => by
  simp only [execOp, hc, Sem.run_bind, Sem.run_pure] at h
  cases hr : (resolve ρ c o.type).run P w with
  | ok d w2 => rw [hr] at h; simp [Result.andThen_ok] at h; exact hn d h.1.symm
  | halt x w2 => rw [hr] at h; simp [Result.andThen] at h
theorem room_FW (ro : Option Nat) (n : Nat) : (FW ro).room n := fun _ h => by cases h
theorem callsIn_FW {ro : Option Nat} {n : Nat} {P : Program} {f : FuncId} {args : Array Value} {w : World} {R : Ending → World → Prop} (h : Calls P f args w R) : CallsIn (FW ro) n P f args w R :=
  (callsIn_wide (n := n)).2 h

/-- a world over a heap. -/
def over (h : Heap) : World := { heap := h, tape := fun _ _ => 0, drawn := 0, os := default, output := #[] }
theorem over_heap (h : Heap) : (over h).heap = h := rfl

/-- a call, told by heaps: from each world over 'h' it returns a value, and leaves a heap, of which R holds. -/
structure HC (P : Program) (f : FuncId) (args : Array Value) (h : Heap) (R : Value → Heap → Prop) : Prop where
  run : ∀ w : World, w.heap = h → Calls P f args w fun e w' => ∃ v, e = .returned v ∧ Sane w w' ∧ R v w'.heap

theorem HC.mono {P : Program} {f : FuncId} {args : Array Value} {h : Heap} {R R' : Value → Heap → Prop} (hc : HC P f args h R)
    (hr : ∀ v h', R v h' → R' v h') : HC P f args h R' :=
  ⟨fun w hw => (hc.run w hw).mono fun _ _ ⟨v, e, s, r⟩ => ⟨v, e, s, hr _ _ r⟩⟩

/-- a step of the machine's, told by heaps. -/
structure SVC (P : Program) {α : Type} (s : Sem α) (h : Heap) (K : α → Heap → Prop) : Prop where
  run : ∀ w : World, w.heap = h → ∃ v w', s.run P w = .ok v w' ∧ Sane w w' ∧ K v w'.heap

/-- what a step yields that only looks. -/
structure Reads (P : Program) {α : Type} (s : Sem α) (h : Heap) (v : α) : Prop where
  run : ∀ w : World, w.heap = h → s.run P w = .ok v w

inductive Cls where
  | pure | read | eff
  deriving DecidableEq

def PureAll (P : Program) (o : Oper) (ρ : Operand → Value) (v : Value) : Prop :=
  ∀ w : World, (execOp ρ o).run P w = .ok (.value v) w
/-- where I holds of the heap, it yields v. -/
def PureAt (P : Program) (I : Heap → Prop) (o : Oper) (ρ : Operand → Value) (v : Value) : Prop :=
  ∀ w : World, I w.heap → (execOp ρ o).run P w = .ok (.value v) w

theorem PureAll.at {P : Program} {I : Heap → Prop} {o : Oper} {ρ : Operand → Value} {v : Value} (h : PureAll P o ρ v) : PureAt P I o ρ v := fun w _ => h w

def ReadAt (P : Program) (o : Oper) (ρ : Operand → Value) (h : Heap) (v : Value) : Prop :=
  ∀ w : World, w.heap = h → (execOp ρ o).run P w = .ok (.value v) w ∨ ((execOp ρ o).run P w = .ok .skip w ∧ v = undef)

def EffRes (P : Program) (w : World) (K : Value → Heap → Prop) : Result Next → Prop
  | .ok (.value v) w' => Sane w w' ∧ K v w'.heap
  | .ok .skip w' => Sane w w' ∧ K undef w'.heap
  | .ok (.enter f args) w' => Sane w w' ∧ Calls P f args w' fun e w'' => ∃ v, e = .returned v ∧ Sane w' w'' ∧ K v w''.heap
  | _ => False

def EffAt (P : Program) (o : Oper) (ρ : Operand → Value) (h : Heap) (K : Value → Heap → Prop) : Prop :=
  ∀ w : World, w.heap = h → EffRes P w K ((execOp ρ o).run P w)

theorem EffRes.mono {P : Program} {w : World} {K K' : Value → Heap → Prop} (hk : ∀ v h, K v h → K' v h) {r : Result Next}
    (h : EffRes P w K r) : EffRes P w K' r := by
  cases r with
  | ok n w' =>
    cases n <;> simp only [EffRes] at h ⊢ <;> first
      | exact ⟨h.1, hk _ _ h.2⟩
      | exact ⟨h.1, h.2.mono fun _ _ ⟨v, e, s, k⟩ => ⟨v, e, s, hk _ _ k⟩⟩
  | halt x w' => exact h.elim

theorem EffAt.mono {P : Program} {o : Oper} {ρ : Operand → Value} {h : Heap} {K K' : Value → Heap → Prop} (hk : ∀ v h, K v h → K' v h)
    (hh : EffAt P o ρ h K) : EffAt P o ρ h K' := fun w hw => (hh w hw).mono hk

theorem EffAt.some {P : Program} {o : Oper} {ρ : Operand → Value} {h : Heap} {K : Value → Heap → Prop} (hh : EffAt P o ρ h K) :
    ∃ v h', K v h' := by
  have := hh (over h) rfl
  generalize (execOp ρ o).run P (over h) = r at this
  cases r with
  | ok n w' =>
    cases n <;> simp only [EffRes] at this <;> first
      | exact ⟨_, _, this.2⟩
      | (obtain ⟨_, hc⟩ := this
         obtain ⟨e, w'', fr, ⟨v, _, _, hk⟩, _⟩ := hc []
         exact ⟨_, _, hk⟩)
  | halt x w' => exact this.elim

/-- what a region asks of heaps: ahead of an operation that only looks (where it may come on either side of what does something), and behind one that does something. -/
structure Inv2 where
  pre : Nat → Heap → Prop
  post : Nat → Heap → Prop
/-- an operation, by the class that it is taken for. -/
def vO (P : Program) (Ip Ie : Heap → Prop) (c : Cls) (o : Oper) (a : Act) (h : Heap) (K : Act → Heap → Prop) : Prop :=
  match c with
  | .pure => ∃ v, PureAt P Ip o a.eval v ∧ K (a.put o.dst v) h
  | .read => ∃ v, ReadAt P o a.eval h v ∧ K (a.put o.dst v) h
  | .eff => EffAt P o a.eval h fun v h' => Ie h' ∧ K (a.put o.dst v) h'

section
variable {P : Program} {J : Inv2} {cl : Oper → Cls} {ops : Array Oper} {md : Region.Mode}

theorem vO_mono {Ip Ie : Heap → Prop} {c : Cls} {o : Oper} {a : Act} {h : Heap} {X : Heap → Prop} {K K' : Act → Heap → Prop} (hx : X h) (hxe : c = .eff → ∀ h', Ie h' → X h') (hk : ∀ a h, X h → K a h → K' a h)
    (hh : vO P Ip Ie c o a h K) : vO P Ip Ie c o a h K' := by
  cases c <;> simp only [vO] at hh ⊢
  · exact let ⟨v, p, k⟩ := hh; ⟨v, p, hk _ _ hx k⟩
  · exact let ⟨v, p, k⟩ := hh; ⟨v, p, hk _ _ hx k⟩
  · exact hh.mono fun _ _ k => ⟨k.1, hk _ _ (hxe rfl _ k.1) k.2⟩

def vOp (P : Program) (J : Inv2) (cl : Oper → Cls) (ops : Array Oper) (i : Nat) (K : Act → Heap → Prop) (a : Act) (h : Heap) : Prop :=
  match ops[i]? with
  | none => K a h
  | some o => if Region.wanted o (yielded ops a.tmps) then vO P (J.pre i) (J.post i) (cl o) o a h K else K (a.put o.dst undef) h

theorem vOp_mono {i : Nat} {a : Act} {h : Heap} {X : Heap → Prop} {K K' : Act → Heap → Prop} (hx : X h) (hxe : ∀ o, ops[i]? = some o → cl o = .eff → ∀ h', J.post i h' → X h') (hk : ∀ a h, X h → K a h → K' a h)
    (hh : vOp P J cl ops i K a h) : vOp P J cl ops i K' a h := by
  unfold vOp at *
  split
  · exact hk _ _ hx (by simpa [*] using hh)
  · rename_i o ho
    simp only [ho] at hh
    split
    · rename_i hw; simp only [hw, if_true] at hh; exact vO_mono hx (hxe o ho) hk hh
    · rename_i hw; simp only [hw] at hh; exact hk _ _ hx hh

def vAny (P : Program) (J : Inv2) (cl : Oper → Cls) (md : Region.Mode) (ops : Array Oper) (Q : Act → Heap → Prop) : Nat → Array Bool → Act → Heap → Prop
  | 0, listed, a, h => Region.ready md ops listed = [] ∧ Q a h
  | fuel + 1, listed, a, h =>
    (Region.ready md ops listed = [] → Q a h) ∧
    ∀ i ∈ Region.ready md ops listed, vOp P J cl ops i (vAny P J cl md ops Q fuel (listed.setIfInBounds i true)) a h

/- ---------------------------------------------------------------- which operation waits for which -/

/-- does j wait for i, by at most so many edges? -/
def dep (md : Region.Mode) (ops : Array Oper) (i : Nat) : Nat → Nat → Bool
  | 0, _ => false
  | n + 1, j => match ops[j]? with
    | none => false
    | some o => o.after.any fun e => Region.binds md e && (e.on == i || dep md ops i n e.on)

def Closed (md : Region.Mode) (ops : Array Oper) (listed : Array Bool) : Prop :=
  ∀ j o, ops[j]? = some o → listed.getD j false = true → ∀ e ∈ o.after, Region.binds md e = true → listed.getD e.on false = true

/-- a carried word on heaps: it gives what a look asks ahead, and what is asked behind gives it. -/
structure Car (J : Inv2) (cl : Oper → Cls) (md : Region.Mode) (ops : Array Oper) (H : Array Bool → Heap → Prop) : Prop where
  pre : ∀ listed h i o, ops[i]? = some o → listed.getD i true = false → H listed h → J.pre i h
  mono : ∀ listed h i, H listed h → H (listed.setIfInBounds i true) h
  post : ∀ listed h i o, ops[i]? = some o → cl o = .eff → i ∈ Region.ready md ops listed → Closed md ops listed → J.post i h → H (listed.setIfInBounds i true) h

theorem getD_true_false {l : Array Bool} {i : Nat} (h : l.getD i true = false) : l.getD i false = false := by
  by_cases hi : i < l.size
  · simp [hi] at h ⊢; exact h
  · simp [hi] at h

theorem dep_unlisted {i : Nat} {listed : Array Bool} (hc : Closed md ops listed) (hi : listed.getD i false = false) :
    ∀ n j, dep md ops i n j = true → listed.getD j false = false
  | 0, _, h => by simp [dep] at h
  | n + 1, j, h => by
    simp only [dep] at h
    cases ho : ops[j]? with
    | none => simp [ho] at h
    | some o =>
      simp only [ho] at h
      obtain ⟨e, he, hb⟩ := Array.any_eq_true'.1 h
      simp only [Bool.and_eq_true, Bool.or_eq_true, beq_iff_eq] at hb
      cases hj : listed.getD j false with
      | false => rfl
      | true =>
        have h1 := hc j o ho hj e he hb.1
        rcases hb.2 with h2 | h2
        · rw [h2, hi] at h1; cases h1
        · rw [dep_unlisted hc hi n _ h2] at h1; cases h1

theorem dep_not_ready {i n j : Nat} {listed : Array Bool} (hc : Closed md ops listed) (hi : listed.getD i false = false)
    (hd : dep md ops i n j = true) : j ∉ Region.ready md ops listed := by
  intro hj
  obtain ⟨_, o, ho, hall⟩ := mem_ready.1 hj
  cases n with
  | zero => simp [dep] at hd
  | succ n =>
    simp only [dep, ho] at hd
    obtain ⟨e, he, hb⟩ := Array.any_eq_true'.1 hd
    simp only [Bool.and_eq_true, Bool.or_eq_true, beq_iff_eq] at hb
    have h1 := hall e he hb.1
    rcases hb.2 with h2 | h2
    · rw [h2, hi] at h1; cases h1
    · rw [dep_unlisted hc hi n _ h2] at h1; cases h1

theorem Closed.set {listed : Array Bool} {j : Nat} (hc : Closed md ops listed) (hj : j ∈ Region.ready md ops listed) :
    Closed md ops (listed.setIfInBounds j true) := by
  intro k o ho hk e he hb
  by_cases hjk : j = k
  · subst hjk
    obtain ⟨_, o', ho', hall⟩ := mem_ready.1 hj
    rw [ho] at ho'
    cases ho'
    exact getD_set_true (hall e he hb)
  · rw [getD_set_ne false hjk] at hk
    exact getD_set_true (hc k o ho hk e he hb)

theorem wp_of_vO {ro : Option Nat} {n : Nat} {Ip Ie : Heap → Prop} {c : Cls} {o : Oper} {a : Act} {w0 w : World} {X : Heap → Prop} {K : Act → Heap → Prop} {K' : Act → World → Prop} {Q' : Exit → Act → World → Prop}
    (hs : Sane w0 w) (hp : Ip w.heap) (hx : X w.heap) (hxe : c = .eff → ∀ h', Ie h' → X h') (hk : ∀ a w', Sane w0 w' → X w'.heap → K a w'.heap → K' a w') (hh : vO P Ip Ie c o a w.heap K) : o.wpIn (FW ro) n P a w K' Q' := by
  unfold Oper.wpIn
  refine ⟨fun _ _ => trivial, ?_⟩
  have step : ∀ {n' : Next} {w' : World}, (execOp a.eval o).run P w = .ok n' w' → (∀ d, n' ≠ .defer d) → (o.semAt (FW ro).round a.eval).run P w = .ok n' w' := fun h hn => by
    rw [Oper.semAt_eq _ _ _ (noDefer h hn)]; exact h
  cases c <;> simp only [vO] at hh
  · obtain ⟨v, p, k⟩ := hh
    rw [step (p w hp) (fun d e => by cases e)]; exact hk _ _ hs hx k
  · obtain ⟨v, p, k⟩ := hh
    rcases p w rfl with q | ⟨q, rfl⟩ <;> rw [step q (fun d e => by cases e)] <;> exact hk _ _ hs hx k
  · have := hh w rfl
    generalize hr : (execOp a.eval o).run P w = r at this
    cases r with
    | ok n w' =>
      cases n <;> simp only [EffRes] at this <;> rw [step hr (fun d e => by cases e)] <;> simp only [Oper.uponIn]
      case enter f args =>
        exact ⟨fun h => by simp [Fence.wide] at h, callsIn_FW (this.2.mono fun e w'' ⟨v, he, s, k⟩ => by subst he; exact hk _ _ (hs.trans (this.1.trans s)) (hxe rfl _ k.1) k.2)⟩
      all_goals exact hk _ _ (hs.trans this.1) (hxe rfl _ this.2.1) this.2.2
    | halt x w' => exact this.elim

theorem wpOp_of_vOp {ro : Option Nat} {n : Nat} {i : Nat} {a : Act} {w0 w : World} {X : Heap → Prop} {K : Act → Heap → Prop} {K' : Act → World → Prop} {Q' : Exit → Act → World → Prop}
    (hs : Sane w0 w) (hp : ∀ o, ops[i]? = some o → J.pre i w.heap) (hx : X w.heap) (hxe : ∀ o, ops[i]? = some o → cl o = .eff → ∀ h', J.post i h' → X h') (hk : ∀ a w', Sane w0 w' → X w'.heap → K a w'.heap → K' a w')
    (hh : vOp P J cl ops i K a w.heap) : wpOpIn (FW ro) n P ops Q' i K' a w := by
  unfold vOp at hh
  unfold wpOpIn
  split
  · rename_i ho; simp only [ho] at hh; exact hk _ _ hs hx hh
  · rename_i o ho
    simp only [ho] at hh
    split
    · rename_i hw; simp only [hw, if_true] at hh; exact wp_of_vO hs (hp o ho) hx (hxe o ho) hk hh
    · rename_i hw; simp only [hw] at hh; exact ⟨fun _ _ => trivial, hk _ _ hs hx hh⟩

theorem wpAny_of_vAny {ro : Option Nat} {n : Nat} {H : Array Bool → Heap → Prop} (hH : Car J cl md ops H) {Q : Act → Heap → Prop} {Q' : Exit → Act → World → Prop} {w0 : World} (hQ : ∀ a w, Sane w0 w → Q a w.heap → Q' .normal a w) :
    ∀ (fuel : Nat) (listed : Array Bool) (a : Act) (w : World), Sane w0 w → Closed md ops listed → H listed w.heap →
    vAny P J cl md ops Q fuel listed a w.heap → wpAnyIn (FW ro) n P md ops Q' fuel listed a w
  | 0, _, _, _, hs, _, _, h => ⟨h.1, hQ _ _ hs h.2⟩
  | fuel + 1, listed, _, _, hs, hc, hI, h =>
    ⟨fun h0 => hQ _ _ hs (h.1 h0), fun i hi => wpOp_of_vOp (X := H (listed.setIfInBounds i true)) hs (fun o ho => hH.pre listed _ i o ho (mem_ready.1 hi).1 hI) (hH.mono _ _ _ hI)
      (fun o ho he h' hp => hH.post listed h' i o ho he hi hc hp) (fun a' w' s hI' k => wpAny_of_vAny hH hQ fuel _ a' w' s (hc.set hi) hI' k) (h.2 i hi)⟩

/-- a region that asks nothing. -/
def J0 : Inv2 := ⟨fun _ _ => True, fun _ _ => True⟩
theorem car0 : Car J0 cl md ops fun _ _ => True := ⟨fun _ _ _ _ _ _ _ => trivial, fun _ _ _ _ => trivial, fun _ _ _ _ _ _ _ _ _ => trivial⟩

/-- in the order of a list. -/
def vList (P : Program) (J : Inv2) (cl : Oper → Cls) (ops : Array Oper) (Q : Act → Heap → Prop) : List Nat → Act → Heap → Prop
  | [], a, h => Q a h
  | i :: rest, a, h => vOp P J cl ops i (vList P J cl ops Q rest) a h

theorem wpOps_of_vList {ro : Option Nat} {n : Nat} {Q : Act → Heap → Prop} {Q' : Exit → Act → World → Prop} {w0 : World} (hQ : ∀ a w, Sane w0 w → Q a w.heap → Q' .normal a w) :
    ∀ (l : List Nat) (a : Act) (w : World), Sane w0 w → vList P J0 cl ops Q l a w.heap → wpOpsIn (FW ro) n P ops Q' l a w
  | [], _, _, hs, h => hQ _ _ hs h
  | i :: l, a, w, hs, h => by
    rw [wpOpsIn_cons]
    exact wpOp_of_vOp (X := fun _ => True) hs (fun _ _ => trivial) trivial (fun _ _ _ _ _ => trivial) (fun a' w' s _ k => wpOps_of_vList hQ l a' w' s k) h

/- ---------------------------------------------------------------- an operation that only looks, first -/

/-- what an operation that only looks yields. -/
def Yld (P : Program) (I : Heap → Prop) (ops : Array Oper) (c : Cls) (o : Oper) (v : Value) (a : Act) (h : Heap) : Prop :=
  (Region.wanted o (yielded ops a.tmps) = true ∧ match c with | .pure => PureAt P I o a.eval v | .read => ReadAt P o a.eval h v | .eff => False) ∨
  (Region.wanted o (yielded ops a.tmps) = false ∧ v = undef)

theorem Yld.vOp {i : Nat} {o : Oper} {v : Value} {a : Act} {h : Heap} {K : Act → Heap → Prop} (hi : ops[i]? = some o) (hy : Yld P (J.pre i) ops (cl o) o v a h)
    (hk : K (a.put o.dst v) h) : vOp P J cl ops i K a h := by
  unfold Vc.vOp
  simp only [hi]
  rcases hy with ⟨hw, hv⟩ | ⟨hw, rfl⟩
  · simp only [hw, if_true]
    cases hc : cl o <;> simp only [hc, vO] at hv ⊢
    · exact ⟨v, hv, hk⟩
    · exact ⟨v, hv, hk⟩
  · simp only [hw, Bool.false_eq_true, if_false]; exact hk

theorem Yld.of_same {I : Heap → Prop} {c : Cls} {o : Oper} {v : Value} {a a' : Act} {h : Heap} (hy : Yld P I ops c o v a h) (he : execOp a'.eval o = execOp a.eval o)
    (hw : Region.wanted o (yielded ops a'.tmps) = Region.wanted o (yielded ops a.tmps)) : Yld P I ops c o v a' h := by
  unfold Yld PureAt ReadAt at *
  rw [he, hw]
  exact hy

theorem Yld.any_heap {I : Heap → Prop} {o : Oper} {v : Value} {a : Act} {h : Heap} (h' : Heap) (hy : Yld P I ops .pure o v a h) : Yld P I ops .pure o v a h' := hy

theorem yld_of_vOp {i : Nat} {o : Oper} {a : Act} {h : Heap} {K : Act → Heap → Prop} (hi : ops[i]? = some o) (hne : cl o ≠ .eff)
    (hh : Vc.vOp P J cl ops i K a h) : ∃ v, Yld P (J.pre i) ops (cl o) o v a h ∧ K (a.put o.dst v) h := by
  unfold Vc.vOp at hh
  simp only [hi] at hh
  by_cases hw : Region.wanted o (yielded ops a.tmps) = true
  · simp only [hw, if_true] at hh
    cases hc : cl o <;> simp only [hc, vO] at hh
    · obtain ⟨v, p, k⟩ := hh; exact ⟨v, .inl ⟨hw, p⟩, k⟩
    · obtain ⟨v, p, k⟩ := hh; exact ⟨v, .inl ⟨hw, p⟩, k⟩
    · exact absurd hc hne
  · simp only [hw] at hh
    exact ⟨undef, .inr ⟨by simpa using hw, rfl⟩, hh⟩

theorem vOp_put {I : Heap → Prop} {j : Nat} {oi oj : Oper} {v : Value} (hj : ops[j]? = some oj) (hap : oi.apart ops oj = true)
    (hsi : ∀ cs b, oi.op ≠ .select cs b) (hsj : ∀ cs b, oj.op ≠ .select cs b) {K : Act → Heap → Prop} {a : Act} {h : Heap}
    (hce : cl oj = .eff → cl oi = .pure)
    (hy : Yld P I ops (cl oi) oi v a h) (hh : vOp P J cl ops j K (a.put oi.dst v) h) :
    vOp P J cl ops j (fun a' h' => Yld P I ops (cl oi) oi v a' h' ∧ K (a'.put oi.dst v) h') a h := by
  obtain ⟨h1, h2, h3⟩ := Oper.apart_spec hap
  have keep : ∀ (a : Act) h, Yld P I ops (cl oi) oi v a h → ∀ u, Yld P I ops (cl oi) oi v (a.put oj.dst u) h := fun a h hy u =>
    hy.of_same (execOp_put oi hsi a oj.dst u h3) (wanted_put oi a oj.dst u h3)
  unfold vOp at *
  simp only [hj] at *
  rw [wanted_put oj a oi.dst v h1] at hh
  split
  · rename_i hw
    simp only [hw, if_true] at hh
    cases hc : cl oj <;> simp only [hc, vO] at hh ⊢
    · obtain ⟨u, p, k⟩ := hh
      refine ⟨u, ?_, keep a h hy u, by rw [← Act.put_comm a v u h2]; exact k⟩
      unfold PureAt at *
      rwa [execOp_put oj hsj a oi.dst v h1] at p
    · obtain ⟨u, p, k⟩ := hh
      refine ⟨u, ?_, keep a h hy u, by rw [← Act.put_comm a v u h2]; exact k⟩
      unfold ReadAt at *
      rwa [execOp_put oj hsj a oi.dst v h1] at p
    · unfold EffAt at *
      rw [execOp_put oj hsj a oi.dst v h1] at hh
      intro w hw
      refine (hh w hw).mono fun u h' k => ⟨k.1, ?_, by rw [← Act.put_comm a v u h2]; exact k.2⟩
      have hp := hce hc
      rw [hp] at hy ⊢
      have := keep a h (by rw [hp]; exact hy) u
      rw [hp] at this
      exact this.any_heap h'
  · rename_i hw
    simp only [hw] at hh
    exact ⟨keep a h hy _, by rw [← Act.put_comm a v undef h2]; exact hh⟩

theorem vAny_first {H : Array Bool → Heap → Prop} (hH : Car J cl md ops H) {Q : Act → Heap → Prop} {i : Nat} {oi : Oper} {v : Value} (hi : ops[i]? = some oi)
    (hsel : ∀ (j : Nat) (o : Oper) cs b, ops[j]? = some o → o.op ≠ .select cs b) :
    ∀ (fuel : Nat) (listed : Array Bool) (a : Act) (h : Heap), H listed h → Closed md ops listed →
      (∀ j oj, ops[j]? = some oj → j ≠ i → listed.getD j true = false → (∀ e ∈ oj.after, Region.binds md e = true → e.on ≠ i) → oi.apart ops oj = true) →
      (cl oi = .pure ∨ ∀ j oj, ops[j]? = some oj → cl oj = .eff → listed.getD j true = false → j ≠ i → ∃ n, dep md ops i n j = true) →
      i ∈ Region.ready md ops listed → Yld P (J.pre i) ops (cl oi) oi v a h →
      vAny P J cl md ops Q fuel (listed.setIfInBounds i true) (a.put oi.dst v) h → vAny P J cl md ops Q (fuel + 1) listed a h := by
  intro fuel
  induction fuel with
  | zero =>
    intro listed a h _ _ _ _ hr hy HH
    refine ⟨fun h => (by rw [h] at hr; cases hr), fun j hj => ?_⟩
    by_cases hji : j = i
    · subst hji; exact hy.vOp hi HH
    · have := ready_mono hj hji
      rw [HH.1] at this
      cases this
  | succ fuel ih =>
    intro listed a h hI hcl hfree hord hr hy HH
    refine ⟨fun h => (by rw [h] at hr; cases hr), fun j hj => ?_⟩
    by_cases hji : j = i
    · subst hji; exact hy.vOp hi HH
    · have h1 := HH.2 j (ready_mono hj hji)
      obtain ⟨hjun, oj, hoj, hall⟩ := mem_ready.1 hj
      have hiun := getD_true_false (mem_ready.1 hr).1
      have hnot : ∀ e ∈ oj.after, Region.binds md e = true → e.on ≠ i := fun e he hb heq => by
        have h1 := hall e he hb
        rw [heq, hiun] at h1
        cases h1
      have hce : cl oj = .eff → cl oi = .pure := fun hc => by
        rcases hord with h0 | h0
        · exact h0
        · obtain ⟨n, hd⟩ := h0 j oj hoj hc hjun hji
          exact absurd hj (dep_not_ready hcl hiun hd)
      have h2 := vOp_put hoj (hfree j oj hoj hji hjun hnot) (fun cs b => hsel i oi cs b hi) (fun cs b => hsel j oj cs b hoj) hce hy h1
      have back : ∀ k, (listed.setIfInBounds j true).getD k true = false → listed.getD k true = false := fun k hun => by
        by_cases hjk : j = k
        · subst hjk; exact hjun
        · rw [getD_set_ne true hjk] at hun; exact hun
      have hfree' : ∀ k ok, ops[k]? = some ok → k ≠ i → (listed.setIfInBounds j true).getD k true = false →
          (∀ e ∈ ok.after, Region.binds md e = true → e.on ≠ i) → oi.apart ops ok = true := fun k ok hk hki hun hno =>
        hfree k ok hk hki (back k hun) hno
      have hord' : cl oi = .pure ∨ ∀ k ok, ops[k]? = some ok → cl ok = .eff → (listed.setIfInBounds j true).getD k true = false → k ≠ i → ∃ n, dep md ops i n k = true :=
        hord.imp id fun h0 k ok hk hc hun hki => h0 k ok hk hc (back k hun) hki
      refine vOp_mono (X := H (listed.setIfInBounds j true)) (hH.mono _ _ _ hI) (fun o ho he h' hp => hH.post listed h' j o ho he hj hcl hp) (fun a' h' hI' h3 => ih (listed.setIfInBounds j true) a' h' hI' (hcl.set hj) hfree' hord' (ready_mono hr (Ne.symm hji)) h3.1 ?_) h2
      rw [Array.setIfInBounds_comm _ _ hji]
      exact h3.2

/- ---------------------------------------------------------------- an operation that does something, first -/

theorem pureAt_unique {I : Heap → Prop} {o : Oper} {ρ : Operand → Value} {u v : Value} {h0 : Heap} (hI : I h0) (h : PureAt P I o ρ u) (h' : PureAt P I o ρ v) : u = v := by
  have a := h (over h0) hI
  rw [h' (over h0) hI] at a
  simp at a
  exact a.symm

theorem yld_pure_unique {I : Heap → Prop} {o : Oper} {a : Act} {h h' h0 : Heap} {u v : Value} (hI : I h0) (hu : Yld P I ops .pure o u a h) (hv : Yld P I ops .pure o v a h') : u = v := by
  rcases hu with ⟨hw, p⟩ | ⟨hw, rfl⟩ <;> rcases hv with ⟨hw', p'⟩ | ⟨hw', rfl⟩
  · exact pureAt_unique hI p p'
  · rw [hw] at hw'; cases hw'
  · rw [hw] at hw'; cases hw'
  · rfl

/-- i, which does something, leaves some heap; of it and what i yields K holds. -/
theorem vOp_eff_some {i : Nat} {oi : Oper} {a : Act} {h : Heap} {K : Act → Heap → Prop} (hi : ops[i]? = some oi)
    (hh : vOp P J cl ops i K a h) : ∃ v h', K (a.put oi.dst v) h' := by
  unfold vOp at hh
  simp only [hi] at hh
  split at hh
  · cases hc : cl oi <;> simp only [hc, vO] at hh
    · exact let ⟨v, _, k⟩ := hh; ⟨v, h, k⟩
    · exact let ⟨v, _, k⟩ := hh; ⟨v, h, k⟩
    · exact let ⟨v, h', k⟩ := EffAt.some hh; ⟨v, h', k.2⟩
  · exact ⟨_, _, hh⟩

theorem vOp_put_eff {i : Nat} {oi oj : Oper} {u : Value} (hi : ops[i]? = some oi) (hap : oj.apart ops oi = true)
    (hsi : ∀ cs b, oi.op ≠ .select cs b) {K K' : Act → Heap → Prop} {a : Act} {h : Heap}
    (hk : ∀ v h', K (a.put oi.dst v) h' → K' ((a.put oi.dst v).put oj.dst u) h')
    (hh : vOp P J cl ops i K a h) : vOp P J cl ops i K' (a.put oj.dst u) h := by
  obtain ⟨h1, h2, h3⟩ := Oper.apart_spec hap
  unfold vOp at *
  simp only [hi] at *
  rw [wanted_put oi a oj.dst u h1]
  have hk2 : ∀ v h', K (a.put oi.dst v) h' → K' ((a.put oj.dst u).put oi.dst v) h' := fun v h' k => by
    rw [Act.put_comm a u v h2]; exact hk v h' k
  split
  · rename_i hw
    simp only [hw, if_true] at hh
    cases hc : cl oi <;> simp only [hc, vO] at hh ⊢
    · obtain ⟨v, p, k⟩ := hh
      refine ⟨v, ?_, hk2 _ _ k⟩
      unfold PureAt at *; rwa [execOp_put oi hsi a oj.dst u h1]
    · obtain ⟨v, p, k⟩ := hh
      refine ⟨v, ?_, hk2 _ _ k⟩
      unfold ReadAt at *; rwa [execOp_put oi hsi a oj.dst u h1]
    · unfold EffAt at *
      rw [execOp_put oi hsi a oj.dst u h1]
      exact fun w hw => (hh w hw).mono fun v h' k => ⟨k.1, hk2 v h' k.2⟩
  · rename_i hw
    simp only [hw] at hh
    exact hk2 _ _ hh

theorem apart_symm {x y : Oper} (h : x.apart ops y = true) : y.apart ops x = true := by
  cases hx : x.dst <;> cases hy : y.dst <;> simp [Oper.apart, hx, hy] at h ⊢
  · exact h
  · exact h
  · obtain ⟨⟨h1, h2⟩, h3⟩ := h
    exact ⟨⟨h3, fun e => h2 e.symm⟩, h1⟩

theorem vAny_first_eff {H : Array Bool → Heap → Prop} (hH : Car J cl md ops H) {Q : Act → Heap → Prop} {i : Nat} {oi : Oper} (hi : ops[i]? = some oi)
    (hsel : ∀ (j : Nat) (o : Oper) cs b, ops[j]? = some o → o.op ≠ .select cs b) :
    ∀ (fuel : Nat) (listed : Array Bool) (a : Act) (h : Heap), H listed h → Closed md ops listed →
      (∀ j oj, ops[j]? = some oj → j ≠ i → listed.getD j true = false → (∀ e ∈ oj.after, Region.binds md e = true → e.on ≠ i) → oi.apart ops oj = true) →
      (∀ j oj, ops[j]? = some oj → cl oj ≠ .pure → listed.getD j true = false → j ≠ i → ∃ n, dep md ops i n j = true) →
      i ∈ Region.ready md ops listed →
      vOp P J cl ops i (vAny P J cl md ops Q fuel (listed.setIfInBounds i true)) a h → vAny P J cl md ops Q (fuel + 1) listed a h := by
  intro fuel
  induction fuel with
  | zero =>
    intro listed a h _ _ _ _ hr HH
    refine ⟨fun h => (by rw [h] at hr; cases hr), fun j hj => ?_⟩
    by_cases hji : j = i
    · subst hji; exact HH
    · obtain ⟨v, h', k⟩ := vOp_eff_some hi HH
      have := ready_mono hj hji
      rw [k.1] at this
      cases this
  | succ fuel ih =>
    intro listed a h hI hcl hfree hord hr HH
    refine ⟨fun h => (by rw [h] at hr; cases hr), fun j hj => ?_⟩
    by_cases hji : j = i
    · subst hji; exact HH
    · obtain ⟨hjun, oj, hoj, hall⟩ := mem_ready.1 hj
      have hiun := getD_true_false (mem_ready.1 hr).1
      have hnot : ∀ e ∈ oj.after, Region.binds md e = true → e.on ≠ i := fun e he hb heq => by
        have h1 := hall e he hb
        rw [heq, hiun] at h1
        cases h1
      have hpure : cl oj = .pure := by
        cases hc : cl oj with
        | pure => rfl
        | _ =>
          obtain ⟨n, hd⟩ := hord j oj hoj (by rw [hc]; simp) hjun hji
          exact absurd hj (dep_not_ready hcl hiun hd)
      have hap := hfree j oj hoj hji hjun hnot
      obtain ⟨p1, p2, p3⟩ := Oper.apart_spec hap
      have hsj := fun cs b => hsel j oj cs b hoj
      have hsi := fun cs b => hsel i oi cs b hi
      -- what j yields behind i, it yields ahead of it
      have ahead : ∀ v h', vAny P J cl md ops Q (fuel + 1) (listed.setIfInBounds i true) (a.put oi.dst v) h' →
          ∃ u, Yld P (J.pre j) ops (cl oj) oj u a h ∧ vAny P J cl md ops Q fuel ((listed.setIfInBounds i true).setIfInBounds j true) ((a.put oi.dst v).put oj.dst u) h' := by
        intro v h' k
        obtain ⟨u, y, k'⟩ := yld_of_vOp hoj (by rw [hpure]; simp) (k.2 j (ready_mono hj hji))
        refine ⟨u, ?_, k'⟩
        have y' := y.of_same (a' := a) (execOp_put oj hsj a oi.dst v p1).symm (wanted_put oj a oi.dst v p1).symm
        rw [hpure] at y' ⊢
        exact y'.any_heap h
      obtain ⟨v0, h0, k0⟩ := vOp_eff_some hi HH
      obtain ⟨u, yu, _⟩ := ahead v0 h0 k0
      refine yu.vOp hoj ?_
      have back : ∀ k, (listed.setIfInBounds j true).getD k true = false → listed.getD k true = false := fun k hun => by
        by_cases hjk : j = k
        · subst hjk; exact hjun
        · rw [getD_set_ne true hjk] at hun; exact hun
      refine ih (listed.setIfInBounds j true) (a.put oj.dst u) h (hH.mono _ _ _ hI) (hcl.set hj) (fun k ok hk hki hun hno => hfree k ok hk hki (back k hun) hno)
        (fun k ok hk hc hun hki => hord k ok hk hc (back k hun) hki) (ready_mono hr (Ne.symm hji)) ?_
      refine vOp_put_eff hi (apart_symm hap) hsi (fun v h' k => ?_) HH
      obtain ⟨u', yu', k'⟩ := ahead v h' k
      rw [hpure] at yu yu'
      rw [yld_pure_unique (hH.pre listed h j oj hoj hjun hI) yu yu', Array.setIfInBounds_comm _ _ hji]
      exact k'

/- ---------------------------------------------------------------- the order of the text -/

def ordOk (cl : Oper → Cls) (md : Region.Mode) (ops : Array Oper) (listed : Array Bool) (i : Nat) : Bool :=
  match ops[i]? with
  | none => false
  | some oi => match cl oi with
    | .pure => true
    | .read => (List.range ops.size).all fun j => j == i || listed.getD j true || match ops[j]? with
        | some oj => (cl oj != .eff) || dep md ops i ops.size j
        | none => true
    | .eff => (List.range ops.size).all fun j => j == i || listed.getD j true || match ops[j]? with
        | some oj => (cl oj == .pure) || dep md ops i ops.size j
        | none => true

def lexFrom (cl : Oper → Cls) (md : Region.Mode) (ops : Array Oper) : Nat → Nat → Array Bool → Bool
  | 0, _, listed => (Region.ready md ops listed).isEmpty
  | fuel + 1, k, listed => (Region.ready md ops listed).contains k && Region.free md ops listed k && ordOk cl md ops listed k &&
      lexFrom cl md ops fuel (k + 1) (listed.setIfInBounds k true)

def lexB (cl : Oper → Cls) (md : Region.Mode) (ops : Array Oper) : Bool :=
  Region.noSelect ops && lexFrom cl md ops ops.size 0 (Array.replicate ops.size false)

theorem vAny_lex {H : Array Bool → Heap → Prop} (hH : Car J cl md ops H) {Q : Act → Heap → Prop} (hs : Region.noSelect ops = true) : ∀ (n k : Nat) (listed : Array Bool) (a : Act) (h : Heap), H listed h → Closed md ops listed →
    lexFrom cl md ops n k listed = true → vList P J cl ops Q (List.range' k n) a h → vAny P J cl md ops Q n listed a h
  | 0, _, _, _, _, _, _, hB, hh => ⟨by simpa [lexFrom] using hB, hh⟩
  | n + 1, k, listed, a, h, hI, hc, hB, hh => by
    simp only [lexFrom, Bool.and_eq_true] at hB
    obtain ⟨⟨⟨hr, hf⟩, ho⟩, hB'⟩ := hB
    have hr' : k ∈ Region.ready md ops listed := by simpa using hr
    obtain ⟨_, oi, hi, _⟩ := mem_ready.1 hr'
    rw [List.range'_succ] at hh
    simp only [vList] at hh
    have step := fun (a : Act) (h : Heap) (hI : H (listed.setIfInBounds k true) h) (k' : vList P J cl ops Q (List.range' (k + 1) n) a h) => vAny_lex hH hs n (k + 1) _ a h hI (hc.set hr') hB' k'
    have inRange : ∀ j oj, ops[j]? = some oj → j ∈ List.range ops.size := fun j oj hj => by
      rw [List.mem_range]; exact (Array.getElem?_eq_some_iff.1 hj).1
    simp only [ordOk, hi] at ho
    cases hcl : cl oi with
    | pure =>
      obtain ⟨v, y, k'⟩ := yld_of_vOp hi (by rw [hcl]; simp) hh
      exact vAny_first hH hi (Region.noSelect_spec hs) n listed a h hI hc (Region.free_spec hi hf) (.inl hcl) hr' y (step _ _ (hH.mono _ _ _ hI) k')
    | read =>
      obtain ⟨v, y, k'⟩ := yld_of_vOp hi (by rw [hcl]; simp) hh
      refine vAny_first hH hi (Region.noSelect_spec hs) n listed a h hI hc (Region.free_spec hi hf) (.inr fun j oj hj he hun hne => ?_) hr' y (step _ _ (hH.mono _ _ _ hI) k')
      simp only [hcl, List.all_eq_true] at ho
      have := ho j (inRange j oj hj)
      simp only [hj, he, Bool.or_eq_true, beq_iff_eq, hne, false_or, hun, Bool.false_eq_true, bne_self_eq_false] at this
      exact ⟨_, this⟩
    | eff =>
      refine vAny_first_eff hH hi (Region.noSelect_spec hs) n listed a h hI hc (Region.free_spec hi hf) (fun j oj hj he hun hne => ?_) hr' (vOp_mono (X := H (listed.setIfInBounds k true)) (hH.mono _ _ _ hI) (fun o ho he h' hp => hH.post listed h' k o ho he hr' hc hp) step hh)
      simp only [hcl, List.all_eq_true] at ho
      have := ho j (inRange j oj hj)
      simp only [hj, Bool.or_eq_true, beq_iff_eq, hne, false_or, hun, Bool.false_eq_true, he] at this
      exact ⟨_, this⟩

theorem closed_none (n : Nat) : Closed md ops (Array.replicate n false) := by
  intro j o _ hj
  by_cases h : j < n <;> simp [h] at hj

/- ---------------------------------------------------------------- orders that part -/

/-- orders: one operation behind the other; where two that do something may come in either order, they part. -/
inductive Tr where
  | nil
  | cons (k : Nat) (t : Tr)
  | fork (t u : Tr)
def Tr.ofList : List Nat → Tr
  | [] => .nil
  | k :: l => .cons k (Tr.ofList l)
def Tr.heads : Tr → List Nat
  | .nil => []
  | .cons k _ => [k]
  | .fork t u => t.heads ++ u.heads

def vTree (P : Program) (J : Inv2) (cl : Oper → Cls) (ops : Array Oper) (Q : Act → Heap → Prop) : Tr → Act → Heap → Prop
  | .nil, a, h => Q a h
  | .cons i t, a, h => vOp P J cl ops i (vTree P J cl ops Q t) a h
  | .fork t u, a, h => vTree P J cl ops Q t a h ∧ vTree P J cl ops Q u a h
theorem vList_of_tree {Q : Act → Heap → Prop} : ∀ (l : List Nat) (a : Act) (h : Heap), vTree P J0 cl ops Q (Tr.ofList l) a h → vList P J0 cl ops Q l a h
  | [], _, _, hh => hh
  | _ :: l, _, _, hh => vOp_mono (cl := cl) (X := fun _ => True) trivial (fun _ _ _ _ _ => trivial) (fun a h _ k => vList_of_tree l a h k) hh

/-- does a tree serve for every order? (fk: right behind a parting) -/
def treeOk (cl : Oper → Cls) (md : Region.Mode) (ops : Array Oper) : Tr → Bool → Nat → Array Bool → Bool
  | .nil, fk, _, listed => fk || (Region.ready md ops listed).isEmpty
  | .cons k t, fk, n, listed => match n with
    | 0 => false
    | n + 1 => (Region.ready md ops listed).contains k && (fk || (Region.free md ops listed k && ordOk cl md ops listed k)) && treeOk cl md ops t false n (listed.setIfInBounds k true)
  | .fork t u, fk, n, listed => (fk || (!(t.heads ++ u.heads).isEmpty && (Region.ready md ops listed).all (fun i => (t.heads ++ u.heads).contains i))) && treeOk cl md ops t true n listed && treeOk cl md ops u true n listed

theorem vAny_tree {H : Array Bool → Heap → Prop} (hH : Car J cl md ops H) {Q : Act → Heap → Prop} (hs : Region.noSelect ops = true) : ∀ (t : Tr) (n : Nat) (listed : Array Bool) (a : Act) (h : Heap), H listed h → Closed md ops listed → vTree P J cl ops Q t a h →
    (treeOk cl md ops t false n listed = true → vAny P J cl md ops Q n listed a h) ∧
    (treeOk cl md ops t true n listed = true → ∀ i ∈ t.heads, i ∈ Region.ready md ops listed ∧ ∃ m, n = m + 1 ∧ vOp P J cl ops i (vAny P J cl md ops Q m (listed.setIfInBounds i true)) a h)
  | .nil, n, listed, a, h, hI, hc, hh => by
    refine ⟨fun hB => ?_, fun _ i hi => by cases hi⟩
    have h0 : Region.ready md ops listed = [] := by simpa [treeOk] using hB
    cases n with
    | zero => exact ⟨h0, hh⟩
    | succ n => exact ⟨fun _ => hh, fun i hi => by rw [h0] at hi; cases hi⟩
  | .cons k t, n, listed, a, h, hI, hc, hh => by
    simp only [vTree] at hh
    cases n with
    | zero => exact ⟨fun hB => by simp [treeOk] at hB, fun hB => by simp [treeOk] at hB⟩
    | succ n =>
      have step : k ∈ Region.ready md ops listed → treeOk cl md ops t false n (listed.setIfInBounds k true) = true →
          vOp P J cl ops k (vAny P J cl md ops Q n (listed.setIfInBounds k true)) a h := fun hr hB' =>
        vOp_mono (X := H (listed.setIfInBounds k true)) (hH.mono _ _ _ hI) (fun o ho he h' hp => hH.post listed h' k o ho he hr hc hp) (fun a h hI k' => (vAny_tree hH hs t n _ a h hI (hc.set hr) k').1 hB') hh
      refine ⟨fun hB => ?_, fun hB i hi => ?_⟩
      · simp only [treeOk, Bool.and_eq_true, Bool.false_or] at hB
        obtain ⟨⟨hr, hf, ho⟩, hB'⟩ := hB
        have hr' : k ∈ Region.ready md ops listed := by simpa using hr
        obtain ⟨_, oi, hi, _⟩ := mem_ready.1 hr'
        have hst := step hr' hB'
        have inRange : ∀ j oj, ops[j]? = some oj → j ∈ List.range ops.size := fun j oj hj => by
          rw [List.mem_range]; exact (Array.getElem?_eq_some_iff.1 hj).1
        simp only [ordOk, hi] at ho
        cases hcl : cl oi with
        | pure =>
          obtain ⟨v, y, k'⟩ := yld_of_vOp hi (by rw [hcl]; simp) hst
          exact vAny_first hH hi (Region.noSelect_spec hs) n listed a h hI hc (Region.free_spec hi hf) (.inl hcl) hr' y k'
        | read =>
          obtain ⟨v, y, k'⟩ := yld_of_vOp hi (by rw [hcl]; simp) hst
          refine vAny_first hH hi (Region.noSelect_spec hs) n listed a h hI hc (Region.free_spec hi hf) (.inr fun j oj hj he hun hne => ?_) hr' y k'
          simp only [hcl, List.all_eq_true] at ho
          have := ho j (inRange j oj hj)
          simp only [hj, he, Bool.or_eq_true, beq_iff_eq, hne, false_or, hun, Bool.false_eq_true, bne_self_eq_false] at this
          exact ⟨_, this⟩
        | eff =>
          refine vAny_first_eff hH hi (Region.noSelect_spec hs) n listed a h hI hc (Region.free_spec hi hf) (fun j oj hj he hun hne => ?_) hr' hst
          simp only [hcl, List.all_eq_true] at ho
          have := ho j (inRange j oj hj)
          simp only [hj, Bool.or_eq_true, beq_iff_eq, hne, false_or, hun, Bool.false_eq_true, he] at this
          exact ⟨_, this⟩
      · simp only [treeOk, Bool.and_eq_true, Bool.true_or, and_true] at hB
        simp only [Tr.heads, List.mem_singleton] at hi
        subst hi
        have hr' : i ∈ Region.ready md ops listed := by simpa using hB.1
        exact ⟨hr', n, rfl, step hr' hB.2⟩
  | .fork t u, n, listed, a, h, hI, hc, hh => by
    obtain ⟨ht, hu⟩ := hh
    have both : treeOk cl md ops t true n listed = true → treeOk cl md ops u true n listed = true → ∀ i ∈ t.heads ++ u.heads, i ∈ Region.ready md ops listed ∧ ∃ m, n = m + 1 ∧ vOp P J cl ops i (vAny P J cl md ops Q m (listed.setIfInBounds i true)) a h := fun h1 h2 i hi => by
      rcases List.mem_append.1 hi with hi | hi
      · exact (vAny_tree hH hs t n listed a h hI hc ht).2 h1 i hi
      · exact (vAny_tree hH hs u n listed a h hI hc hu).2 h2 i hi
    refine ⟨fun hB => ?_, fun hB => ?_⟩
    · simp only [treeOk, Bool.and_eq_true, Bool.false_or, List.all_eq_true] at hB
      obtain ⟨⟨⟨hne, hall⟩, h1⟩, h2⟩ := hB
      have hb := both h1 h2
      cases hl : t.heads ++ u.heads with
      | nil => rw [hl] at hne; simp at hne
      | cons i0 r =>
        obtain ⟨hr0, m, rfl, _⟩ := hb i0 (by rw [hl]; exact List.mem_cons_self)
        refine ⟨fun h0 => (by rw [h0] at hr0; cases hr0), fun i hi => ?_⟩
        obtain ⟨_, m', hm', hv⟩ := hb i (by simpa using hall i hi)
        have : m = m' := by omega
        subst this
        exact hv
    · simp only [treeOk, Bool.and_eq_true, Bool.true_or, true_and] at hB
      exact both hB.1 hB.2

/-- the orders of a region. -/
def mkTr (cl : Oper → Cls) (md : Region.Mode) (ops : Array Oper) : Nat → Array Bool → Tr
  | 0, _ => .nil
  | n + 1, listed => match (Region.ready md ops listed).find? fun k => Region.free md ops listed k && ordOk cl md ops listed k with
    | some k => .cons k (mkTr cl md ops n (listed.setIfInBounds k true))
    | none => match Region.ready md ops listed with
      | [] => .nil
      | k :: ks => ks.foldl (fun t j => .fork t (.cons j (mkTr cl md ops n (listed.setIfInBounds j true)))) (.cons k (mkTr cl md ops n (listed.setIfInBounds k true)))

/-- A REGION THAT DRAWS ITS ORDER: a tree of orders serves for all. -/
theorem wp_region_tree {ro : Option Nat} {n : Nat} {id : Nat} {H : Array Bool → Heap → Prop} (hH : Car J cl .any ops H) {Q : Exit → Act → World → Prop} {Q' : Act → Heap → Prop} {a : Act} {w : World} {t : Tr} (hm : P.follows .mixedOrders = true)
    (hn : Region.noSelect ops = true) (hB : treeOk cl .any ops t false ops.size (Array.replicate ops.size false) = true)
    (hQ : ∀ a w', Sane w w' → Q' a w'.heap → Q .normal a w')
    (hI : H (Array.replicate ops.size false) w.heap) (h : vTree P J cl ops Q' t a w.heap) : (Code.region id ops true).wpIn (FW ro) n P Q a w :=
  wpIn_region_any hm (wpAny_of_vAny hH (cl := cl) (Q := Q') (w0 := w) hQ _ _ _ _ (Sane.same rfl) (closed_none _) hI ((vAny_tree hH hn t ops.size _ a _ hI (closed_none _) h).1 hB))

/-- A REGION THAT DRAWS ITS ORDER: the order of the text serves for all. -/
theorem wp_region_lex {ro : Option Nat} {n : Nat} {id : Nat} {Q : Exit → Act → World → Prop} {Q' : Act → Heap → Prop} {a : Act} {w : World} (hm : P.follows .mixedOrders = true) (hB : lexB cl .any ops = true)
    (hQ : ∀ a w', Sane w w' → Q' a w'.heap → Q .normal a w')
    (h : vList P J0 cl ops Q' (List.range ops.size) a w.heap) : (Code.region id ops true).wpIn (FW ro) n P Q a w := by
  simp only [lexB, Bool.and_eq_true] at hB
  refine wpIn_region_any hm (wpAny_of_vAny (J := J0) car0 (cl := cl) (Q := Q') (w0 := w) hQ _ _ _ _ (Sane.same rfl) (closed_none _) trivial ?_)
  rw [List.range_eq_range'] at h
  exact vAny_lex car0 hB.1 ops.size 0 _ a _ trivial (closed_none _) hB.2 h

theorem wp_region_seq {ro : Option Nat} {n : Nat} {id : Nat} {Q : Exit → Act → World → Prop} {Q' : Act → Heap → Prop} {a : Act} {w : World}
    (hQ : ∀ a w', Sane w w' → Q' a w'.heap → Q .normal a w')
    (h : vList P J0 cl ops Q' (List.range ops.size) a w.heap) : (Code.region id ops false).wpIn (FW ro) n P Q a w :=
  wpIn_region (wpOps_of_vList hQ _ _ _ (Sane.refl _) h)
end
end Go.Vc
