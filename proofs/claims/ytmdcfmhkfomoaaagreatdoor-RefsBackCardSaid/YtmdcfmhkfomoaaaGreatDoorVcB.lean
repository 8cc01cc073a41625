/-
  The symbolic run of a region's operations: what must hold of heaps and values so that the operations run through. Conditions: none.
-/
import Derived.Test.YtmdcfmhkfomoaaaGreatDoorVcA
import Derived.Tactics
import Derived.Laws.Tables
import Derived.Laws.Slices
import Derived.Laws.Panics
import Derived.Laws.Small
namespace Go.Vc
open Go

/- ------------------------------------------------------------------ shapes of values -/

inductive Sc where
  | int (k : IntKind) | bool | str | ptr | slice | map | raw
inductive S1 where
  | sc (s : Sc) | agg (l : List Sc) | big
inductive Sh where
  | one (s : S1) | tup (l : List S1)

def exSc : Sc → (Value → Prop) → Prop
  | .int k, K => ∃ n : Int, K (.int k n)
  | .bool, K => ∃ b : Bool, K (.bool b)
  | .str, K => ∃ s : ByteArray, K (.string s)
  | .ptr, K => ∃ a : Option Addr, K (.pointer a)
  | .slice, K => ∃ (a : Option Addr) (n c : Nat), K (.slice a n c)
  | .map, K => ∃ r : Option Nat, K (.map r)
  | .raw, K => ∃ v : Value, K v
def exScs : List Sc → (List Value → Prop) → Prop
  | [], K => K []
  | s :: l, K => exSc s fun v => exScs l fun vs => K (v :: vs)
def exS1 : S1 → (Value → Prop) → Prop
  | .sc s, K => exSc s K
  | .agg l, K => exScs l fun vs => K (.agg vs.toArray)
  | .big, K => ∃ cs : Array Value, K (.agg cs)
def exS1s : List S1 → (List Value → Prop) → Prop
  | [], K => K []
  | s :: l, K => exS1 s fun v => exS1s l fun vs => K (v :: vs)
def exSh : Sh → (Value → Prop) → Prop
  | .one s, K => exS1 s K
  | .tup l, K => exS1s l fun vs => K (.tuple vs.toArray)

theorem exSc_some : ∀ {s : Sc} {K : Value → Prop}, exSc s K → ∃ v, K v := by
  intro s K h
  cases s <;> simp only [exSc] at h
  case slice => obtain ⟨a, n, c, h⟩ := h; exact ⟨_, h⟩
  all_goals exact let ⟨_, h⟩ := h; ⟨_, h⟩
theorem exScs_some : ∀ {l : List Sc} {K : List Value → Prop}, exScs l K → ∃ v, K v
  | [], _, h => ⟨_, h⟩
  | _ :: _, _, h => let ⟨_, h⟩ := exSc_some h; let ⟨_, h⟩ := exScs_some h; ⟨_, h⟩
theorem exS1_some : ∀ {s : S1} {K : Value → Prop}, exS1 s K → ∃ v, K v
  | .sc _, _, h => exSc_some h
  | .agg _, _, h => let ⟨_, h⟩ := exScs_some h; ⟨_, h⟩
  | .big, _, h => let ⟨_, h⟩ := h; ⟨_, h⟩
theorem exS1s_some : ∀ {l : List S1} {K : List Value → Prop}, exS1s l K → ∃ v, K v
  | [], _, h => ⟨_, h⟩
  | _ :: _, _, h => let ⟨_, h⟩ := exS1_some h; let ⟨_, h⟩ := exS1s_some h; ⟨_, h⟩
theorem exSh_some : ∀ {s : Sh} {K : Value → Prop}, exSh s K → ∃ v, K v
  | .one _, _, h => exS1_some h
  | .tup _, _, h => let ⟨_, h⟩ := exS1s_some h; ⟨_, h⟩

/-- the cells of a type that is small and holds no array; none: it does. -/
def scsOf (P : Program) : Nat → TypeId → Option (List Sc)
  | 0, _ => none
  | n + 1, t => match P.underlying t with
    | some (.int k) => some [.int k]
    | some .bool => some [.bool]
    | some .string => some [.str]
    | some (.pointer _) => some [.ptr]
    | some (.slice _) => some [.slice]
    | some (.map _ _) => some [.map]
    | some (.struct fs) => fs.toList.foldr (fun f acc => match scsOf P n f.type, acc with | some a, some b => some (a ++ b) | _, _ => none) (some [])
    | some (.array _ _) => none
    | _ => some [.raw]
def s1Of (P : Program) (t : TypeId) : S1 :=
  match P.underlying t with
  | some (.struct _) => match scsOf P 8 t with | some l => .agg l | none => .big
  | some (.array _ _) => .big
  | _ => match scsOf P 1 t with | some [s] => .sc s | _ => .sc .raw
def shOf (P : Program) (t : TypeId) : Sh :=
  match P.underlying t with
  | some (.tuple ts) => .tup (ts.toList.map (s1Of P))
  | _ => .one (s1Of P t)
def bigT (P : Program) (t : TypeId) : Bool := match s1Of P t with | .big => true | _ => false
def aggT (P : Program) (t : TypeId) : Bool := match P.underlying t with | some (.struct _) | some (.array _ _) => true | _ => false

/- ------------------------------------------------------------------ the frame -/

abbrev Path := List (Nat × Bool)
abbrev Env := List (Nat × Path × Value)
abbrev Env0 := List (Nat × Value)

def lookG : Env0 → Nat → Option Value
  | [], _ => none
  | (u, v) :: r, t => match Nat.beq u t with | true => some v | false => lookG r t
def lookL : Env → Nat → Option (Path × Value)
  | [], _ => none
  | (u, p, v) :: r, t => match Nat.beq u t with | true => some (p, v) | false => lookL r t
def look (l : Env) (g : Env0) (t : Nat) : Option (Path × Value) :=
  match lookL l t with
  | some x => some x
  | none => match lookG g t with | some v => some ([], v) | none => none
def val (l : Env) (g : Env0) : Operand → Value
  | .tmp t => match look l g t with | some (_, v) => v | none => undef
  | .const v => v
  | .global g => .pointer (some ⟨g, 0, none⟩)
  | .func f => .func (.func f) #[] #[]
def bval (l : Env) (t : Nat) : Bool := match lookL l t with | some (_, .bool b) => b | _ => false
def lit (w b : Bool) : Bool := match w with | true => b | false => !b
def cond (l : Env) : Path → Bool
  | [] => true
  | [(t, w)] => lit w (bval l t)
  | (t, w) :: r => lit w (bval l t) && cond l r
theorem cond_cons (l : Env) (t : Nat) (w : Bool) (r : Path) : cond l ((t, w) :: r) = (lit w (bval l t) && cond l r) := by
  cases r <;> simp [cond]
def gd (l : Env) : Path → Prop → Prop
  | [], X => X
  | p, X => cond l p = true → X
theorem gd_spec {l : Env} {p : Path} {X : Prop} (h : gd l p X) : cond l p = true → X := by
  cases p with
  | nil => exact fun _ => h
  | cons _ _ => exact h
def eqP : Path → Path → Bool
  | [], [] => true
  | (a, b) :: p, (c, d) :: q => Nat.beq a c && (b == d) && eqP p q
  | _, _ => false
def sub (q : Path) : Path → Bool
  | [] => match q with | [] => true | _ => false
  | x :: p => eqP q (x :: p) || sub q p
theorem eqP_eq : ∀ {p q : Path}, eqP p q = true → p = q
  | [], [], _ => rfl
  | (a, b) :: p, (c, d) :: q, h => by
    simp only [eqP, Bool.and_eq_true, beq_iff_eq] at h
    rw [Nat.eq_of_beq_eq_true h.1.1, h.1.2, eqP_eq h.2]
  | [], _ :: _, h => by simp [eqP] at h
  | _ :: _, [], h => by simp [eqP] at h
theorem sub_cond {l : Env} {q : Path} : ∀ {p : Path}, sub q p = true → cond l p = true → cond l q = true
  | [], h, _ => by cases q with | nil => rfl | cons _ _ => simp [sub] at h
  | (t, w) :: p, h, hc => by
    simp only [sub, Bool.or_eq_true] at h
    rcases h with h | h
    · rw [eqP_eq h]; exact hc
    · rw [cond_cons, Bool.and_eq_true] at hc
      exact sub_cond h hc.2

/-- may an operand be read where p holds? -/
def okIn (l : Env) (g : Env0) (p : Path) : Operand → Bool
  | .tmp t => match look l g t with | some (q, _) => sub q p | none => false
  | _ => true
def okOp (l : Env) (g : Env0) (p : Path) (op : Op) : Bool :=
  op.operands.all (okIn l g p)
def slotOf : Operand → Option Nat
  | .tmp t => some t
  | _ => none

def mapA {α β : Type} (f : α → β) (xs : Array α) : Array β := (xs.toList.map f).toArray
theorem mapA_eq {α β : Type} (f : α → β) (xs : Array α) : mapA f xs = xs.map f := by cases xs; simp [mapA]

/- ------------------------------------------------------------------ operations that touch no memory -/

def kn : IntKind → Nat
  | .i8 => 0 | .i16 => 1 | .i32 => 2 | .i64 => 3 | .u8 => 4 | .u16 => 5 | .u32 => 6 | .u64 => 7
def eqKind (k k' : IntKind) : Bool := Nat.beq (kn k) (kn k')
theorem eqKind_eq {k k' : IntKind} (h : eqKind k k' = true) : k = k' := by
  have := Nat.eq_of_beq_eq_true h
  cases k <;> cases k' <;> first | rfl | (simp [kn] at this)

def binK (op : BinOp) (x y : Value) (G : Prop → Prop) (K : Value → Prop) : Prop :=
  match x, y with
  | .int k a, .int k' b =>
    match op with
    | .shl => G (0 ≤ b) ∧ K (.int k (k.wrap (a * 2 ^ (min b.toNat k.bits))))
    | .shr => G (0 ≤ b) ∧ K (.int k (a.fdiv (2 ^ (min b.toNat k.bits))))
    | _ => match eqKind k k' with
      | false => False
      | true => match op with
        | .add => K (.int k (k.wrap (a + b)))
        | .sub => K (.int k (k.wrap (a - b)))
        | .mul => K (.int k (k.wrap (a * b)))
        | .quo => G (b ≠ 0) ∧ K (.int k (k.wrap (a.tdiv b)))
        | .rem => G (b ≠ 0) ∧ K (.int k (a.tmod b))
        | .and => K (.int k (k.wrap (BitVec.ofInt k.bits a &&& BitVec.ofInt k.bits b).toNat))
        | .or => K (.int k (k.wrap (BitVec.ofInt k.bits a ||| BitVec.ofInt k.bits b).toNat))
        | .xor => K (.int k (k.wrap (BitVec.ofInt k.bits a ^^^ BitVec.ofInt k.bits b).toNat))
        | .andNot => K (.int k (k.wrap (BitVec.ofInt k.bits a &&& ~~~BitVec.ofInt k.bits b).toNat))
        | .eql => K (.bool (a == b))
        | .neq => K (.bool (a != b))
        | .lss => K (.bool (decide (a < b)))
        | .leq => K (.bool (decide (a ≤ b)))
        | .gtr => K (.bool (decide (a > b)))
        | .geq => K (.bool (decide (a ≥ b)))
        | _ => False
  | .string a, .string b =>
    match op with
    | .add => G (((a.size + b.size : Nat) : Int) ≤ IntKind.i64.max) ∧ K (.string (a ++ b))
    | .eql => K (.bool (a.toList == b.toList))
    | .neq => K (.bool !(a.toList == b.toList))
    | .lss => K (.bool (Op.bytesLess a.toList b.toList))
    | .leq => K (.bool (Op.bytesLess a.toList b.toList || a.toList == b.toList))
    | .gtr => K (.bool !(Op.bytesLess a.toList b.toList || a.toList == b.toList))
    | .geq => K (.bool !Op.bytesLess a.toList b.toList)
    | _ => False
  | _, _ => False

def byteAt (s : ByteArray) (i : Int) : Int := (s.data.getD i.toNat 0).toNat

def lowOf (x : Option Value) : Option Int := match x with | none => some 0 | some (.int _ i) => some i | _ => none
def highOf (n : Nat) (x : Option Value) : Option Int := match x with | none => some n | some (.int _ i) => some i | _ => none

/-- where a slice of a slice begins. -/
def subA (a : Option Addr) (l m size : Nat) : Option Addr := if m = l then a else a.map (·.add (l * size))

def szOf (P : Program) (t : TypeId) : Option Nat := (P.info? t).map (·.size)

def sliceK (P : Program) (t : TypeId) (x : Value) (lo hi mx : Option Value) (G : Prop → Prop) (K : Value → Prop) : Prop :=
  match mx.isSome && hi.isNone with
  | true => False
  | false =>
  match P.underlying t, x with
  | some .string, .string s =>
    match mx with
    | some _ => False
    | none => match lowOf lo, highOf s.size hi with
      | some l, some h => G (0 ≤ l ∧ l ≤ h ∧ h ≤ s.size) ∧ K (.string (s.extract l.toNat h.toNat))
      | _, _ => False
  | some (.slice e), .slice a n c =>
    match szOf P e, lowOf lo, highOf n hi, highOf c mx, lo with
    | some _, some _, some h, some m, none => G (0 ≤ h ∧ h ≤ m ∧ m ≤ c) ∧ K (.slice a h.toNat m.toNat)
    | some sz, some l, some h, some m, some _ => G (0 ≤ l ∧ l ≤ h ∧ h ≤ m ∧ m ≤ c) ∧ K (.slice (subA a l.toNat m.toNat sz) (h.toNat - l.toNat) (m.toNat - l.toNat))
    | _, _, _, _, _ => False
  | some (.array n e), .pointer (some a) =>
    match szOf P e, lowOf lo, highOf n hi, highOf n mx with
    | some sz, some l, some h, some m => G (0 ≤ l ∧ l ≤ h ∧ h ≤ m ∧ m ≤ n) ∧ K (.slice (subA (some a) l.toNat m.toNat sz) (h.toNat - l.toNat) (m.toNat - l.toNat))
    | _, _, _, _ => False
  | _, _ => False

/-- a part of a struct or an array. -/
def partK (P : Program) (t : TypeId) (cs : Array Value) (off : Nat) (big : Bool) (G : Prop → Prop) (K : Value → Prop) : Prop :=
  match szOf P t, aggT P t, P.underlying t with
  | some sz, true, some _ => match big with
    | true => K (.agg (cs.extract off (off + sz)))
    | false => K (.agg ((cs.toList.drop off).take sz).toArray)
  | some _, false, some _ => match big with
    | true => exS1 (s1Of P t) fun v => G (cs[off]? = some v) ∧ K v
    | false => match cs.toList[off]? with | some v => K v | none => False
  | _, _, _ => False

/-- cells written into a row, from a place on. -/
def putL : List Value → Nat → List Value → List Value
  | cs, _, [] => cs
  | cs, off, v :: vs => putL (cs.set off v) (off + 1) vs
def fillL (place : Nat → Option (Nat × Nat)) (cells : List Value) : List (Nat × Value) → Option (List Value)
  | [] => some cells
  | (i, v) :: rest => match place i with
    | none => none
    | some (off, size) => match Nat.beq v.cells.toList.length size && Nat.ble (off + v.cells.toList.length) cells.length with
      | true => fillL place (putL cells off v.cells.toList) rest
      | false => none
def placesOf (P : Program) : List Field → Option (List (Nat × Nat))
  | [] => some []
  | f :: fs => match szOf P f.type, placesOf P fs with | some n, some l => some ((f.offset, n) :: l) | _, _ => none
def builtL (P : Program) (t : TypeId) (parts : List (Nat × Value)) : Option (List Value) :=
  match (P.info? t).bind (·.zero), P.underlying t with
  | some z, some (.struct fs) => match placesOf P fs.toList with
    | some pl => fillL (pl[·]?) z.cells.toList parts
    | none => none
  | some z, some (.array _ e) => match szOf P e with
    | some sz => fillL (fun i => some (i * sz, sz)) z.cells.toList parts
    | none => none
  | _, _ => none
def partsL (ρ : Operand → Value) : List (Nat × Operand) → List (Nat × Value)
  | [] => []
  | (i, x) :: l => (i, ρ x) :: partsL ρ l

/-- a value is built of parts (a structure: so that no reckoning lays its cells out). -/
structure Blt (P : Program) (t : TypeId) (parts : List (Nat × Value)) (cs : Array Value) : Prop where
  eq : P.built t parts = some cs
def pureK (P : Program) (o : Oper) (ρ : Operand → Value) (G : Prop → Prop) (K : Value → Prop) : Prop :=
  match o.op with
  | .move x | .assign x => K (ρ x)
  | .pick c a b => match ρ c, ρ a, ρ b with
    | .bool x, .bool y, .bool z => K (.bool (Bool.rec z y x))
    | _, _, _ => False
  | .nilCheck x => match ρ x with
    | .pointer a => ∃ p, G (a = some p) ∧ K (.pointer (some p))
    | .iface t v => K (.iface t v)
    | .func (.func f) a b => K (.func (.func f) a b)
    | _ => False
  | .binOp op _ x y _ => binK op (ρ x) (ρ y) G K
  | .unOp op _ x => match op, ρ x with
    | .not, .bool b => K (.bool !b)
    | .neg, .int k n => K (.int k (k.wrap (0 - n)))
    | .xor, .int k n => K (.int k (k.wrap (BitVec.ofInt k.bits (match k.signed with | true => -1 | false => k.max) ^^^ BitVec.ofInt k.bits n).toNat))
    | _, _ => False
  | .convert s d x => match P.underlying s, P.underlying d, ρ x with
    | some (.int _), some (.int k), .int _ n => K (.int k (k.wrap n))
    | some .string, some .string, .string b => K (.string b)
    | _, _, _ => False
  | .makeInterface t x => match P.underlying t with
    | some (.interface _) => False
    | some _ => K (.iface t (ρ x))
    | none => False
  | .makeFunc fn first captured => K (.func fn (mapA ρ first) (mapA ρ captured))
  | .fieldAddr s x f => match P.underlying s, ρ x with
    | some (.struct fs), .pointer (some a) => match fs[f]? with
      | some fd => match szOf P fd.type with
        | some (_ + 1) => K (.pointer (some (a.add fd.offset)))
        | _ => False
      | none => False
    | _, _ => False
  | .indexAddr t x ix => match P.underlying t, ρ x, ρ ix with
    | some (.slice e), .slice base n _, .int _ i => match szOf P e with
      | some sz => ∃ p, G (base = some p ∧ 0 ≤ i ∧ i < n) ∧ K (.pointer (some (p.add (i.toNat * sz))))
      | none => False
    | some (.array n e), .pointer (some a), .int _ i => match szOf P e with
      | some sz => G (0 ≤ i ∧ i < n) ∧ K (.pointer (some (a.add (i.toNat * sz))))
      | none => False
    | _, _, _ => False
  | .index t x ix => match P.underlying t, ρ x, ρ ix with
    | some .string, .string s, .int _ i => G (0 ≤ i ∧ i < s.size) ∧ K (.int .u8 (byteAt s i))
    | some (.array n e), .agg cs, .int _ i => match szOf P e with
      | some sz => G (0 ≤ i ∧ i < n) ∧ partK P e cs (i.toNat * sz) true G K
      | none => False
    | _, _, _ => False
  | .slice t x lo hi mx => sliceK P t (ρ x) (lo.map ρ) (hi.map ρ) (mx.map ρ) G K
  | .field t x f => match P.underlying t, ρ x with
    | some (.struct fs), .agg cs => match fs[f]? with
      | some fd => partK P fd.type cs fd.offset (bigT P t) G K
      | none => False
    | _, _ => False
  | .extract x i => match ρ x with
    | .tuple vs => match vs[i]? with | some v => K v | none => False
    | _ => False
  | .build t parts => match bigT P t with
    | true => ∃ cs, G (Blt P t (partsL ρ parts.toList) cs) ∧ K (.agg cs)
    | false => match builtL P t (partsL ρ parts.toList) with | some cs => K (.agg cs.toArray) | none => False
  | .call { callee := .builtin .len, args, argTypes } => match (argTypes[0]?).bind P.underlying, (args[0]?).map ρ with
    | some .string, some (.string s) => K (.int .i64 s.size)
    | some (.slice _), some (.slice _ n _) => K (.int .i64 n)
    | some (.array n _), some _ => K (.int .i64 n)
    | _, _ => False
  | .call { callee := .builtin .cap, args, argTypes } => match (argTypes[0]?).bind P.underlying, (args[0]?).map ρ with
    | some (.slice _), some (.slice _ _ c) => K (.int .i64 c)
    | _, _ => False
  | _ => False

/-- which operations are taken for which class. -/
def clsOf (P : Program) (o : Oper) : Cls :=
  match o.op with
  | .move _ | .assign _ | .pick .. | .nilCheck _ | .unOp .. | .makeInterface .. | .makeFunc .. | .fieldAddr .. | .indexAddr .. | .index .. | .slice ..
  | .field .. | .extract .. | .build .. => .pure
  | .binOp _ t _ _ _ => match P.underlying t with
    | some (.int _) | some .string => .pure
    | _ => .read
  | .convert s d _ => match P.underlying s, P.underlying d with
    | some (.int _), some (.int _) => .pure
    | some .string, some .string => .pure
    | some (.slice _), some .string => .read
    | _, _ => .eff
  | .load .. | .lookup .. | .ready _ | .waits _ | .entry _ | .typeAssert .. | .sliceToArrayPointer .. => .read
  | .call { callee := .builtin .len, argTypes, .. } => match (argTypes[0]?).bind P.underlying with
    | some .string | some (.slice _) | some (.array _ _) => .pure
    | _ => .read
  | .call { callee := .builtin .cap, .. } => .pure
  | .call { callee := .builtin .min, .. } | .call { callee := .builtin .max, .. } => .read
  | _ => .eff

/-- a comparison of whatever kind. -/
def eqSem (op : BinOp) (t : TypeId) (x y : Operand) (a b : Value) : Sem Value := do eqGuard op t x y a b; binOp op t a b

/-- an operation that only looks. -/
def semR (o : Oper) (ρ : Operand → Value) : Option (Sem Value) :=
  match o.op with
  | .binOp op t x y _ => some (eqSem op t x y (ρ x) (ρ y))
  | .convert s d x => some (convert s d (ρ x))
  | .load t a => some (Instr.loadAt t (ρ a))
  | .lookup t x ix ok => some (Instr.lookup t (ρ x) (ρ ix) ok)
  | .waits g => some (Instr.waits g)
  | .entry it => some (Instr.entry (ρ it))
  | .typeAssert x t u ok => some (Instr.typeAssert (ρ x) t u ok)
  | .call { callee := .builtin .len, args, argTypes } => some (Builtin.len_ argTypes o.type (mapA ρ args))
  | .call { callee := .builtin .min, args, argTypes } => some (Builtin.min_ argTypes o.type (mapA ρ args))
  | .call { callee := .builtin .max, args, argTypes } => some (Builtin.max_ argTypes o.type (mapA ρ args))
  | _ => none
def tyR (o : Oper) : TypeId := match o.op with | .load t _ => t | _ => o.type

def readK (P : Program) (sh : Sh) (o : Oper) (ρ : Operand → Value) (h : Heap) (G : Prop → Prop) (K : Value → Prop) : Prop :=
  match o.op with
  | .ready g => G (Reads P (Instr.ready g) h ()) ∧ K undef
  | _ => match semR o ρ with
    | some s => exSh sh fun v => G (Reads P s h v) ∧ K v
    | none => False
/-- the shape of what a look yields: of a map's entry, by what is taken of it. -/
def entS (P : Program) (d : Option Tmp) (i : Nat) : List Oper → S1
  | [] => .sc .raw
  | o :: l => match o.op, d with
    | .extract (.tmp t) j, some d => match Nat.beq t d && Nat.beq j i with | true => s1Of P o.type | false => entS P (some d) i l
    | _, d => entS P d i l
def shR (P : Program) (ops : Array Oper) (o : Oper) : Sh := match o.op with
  | .entry _ => .tup [entS P o.dst 0 ops.toList, entS P o.dst 1 ops.toList]
  | _ => shOf P (tyR o)

/- ------------------------------------------------------------------ operations that do something -/

def semE (o : Oper) (ρ : Operand → Value) : Option (Sem Value) :=
  match o.op with
  | .alloc e => some (Instr.alloc e true (.tuple #[]))
  | .box e x => some (Instr.box e (ρ x))
  | .buildSlice t n parts => some (Instr.buildSlice t n (partsL ρ parts.toList).toArray)
  | .convert s d x => some (convert s d (ρ x))
  | .makeMap t r => some (Instr.makeMap t (r.map ρ))
  | .makeSlice t l c => some (Instr.makeSlice t (ρ l) (ρ c))
  | .mapEntry t m k => some (Instr.mapEntry t (ρ m) (ρ k))
  | .range t x => some (Instr.range t (ρ x))
  | .next it s => some (Instr.next (ρ it) s o.type)
  | .call { callee := .builtin .append, args, argTypes } => some (Builtin.append_ argTypes o.type (mapA ρ args))
  | .call { callee := .builtin .copy, args, argTypes } => some (Builtin.copy_ argTypes o.type (mapA ρ args))
  | .call { callee := .builtin .delete, args, argTypes } => some (Builtin.delete_ argTypes o.type (mapA ρ args))
  | .call { callee := .builtin .clear, args, argTypes } => some (Builtin.clear_ argTypes o.type (mapA ρ args))
  | _ => none
def semU (o : Oper) (ρ : Operand → Value) : Option (Sem Unit) :=
  match o.op with
  | .store t a x => some (Instr.storeAt t (ρ a) (ρ x))
  | .mapUpdate t m k x | .insert t m k x => some (Instr.mapUpdate t (ρ m) (ρ k) (ρ x))
  | .entryStore t m s x => some (Instr.entryStore t (ρ m) (ρ s) (ρ x))
  | _ => none

/-- can a function be entered? -/
def fnOk (P : Program) (f : FuncId) : Bool :=
  match P.funcs[f]? with
  | some fn => !(fn.name == "runtime.NumGoroutine") && fn.body.isSome
  | none => false

/-- the shape of what such an operation yields. -/
def shE (P : Program) (o : Oper) : Sh := match o.op with
  | .alloc _ | .box _ _ | .range _ _ => .one (.sc .ptr)
  | _ => shOf P o.type

/-- the cells of a type's zero value. -/
def zc (P : Program) (e : TypeId) : Array Value := match (P.info? e).bind (·.zero) with | some z => z.cells | none => #[]
def hasZ (P : Program) (e : TypeId) : Bool := ((P.info? e).bind (·.zero)).isSome

/-- a method of what an interface value holds: which function it is, and of what. -/
structure Meth (P : Program) (v : Value) (name : String) (f : FuncId) (r : Value) : Prop where
  run : ∀ (w : World) (args : Array Value), (callMethod v name args).run P w = .ok (.enter f (#[r] ++ args)) w
def effK0 (P : Program) (o : Oper) (ρ : Operand → Value) (h : Heap) (K : Value → Heap → Prop) : Prop :=
  match semE o ρ with
  | some s => SVC P s h fun v h' => exSh (shE P o) fun v' => v = v' ∧ K v' h'
  | none => match semU o ρ with
    | some s => SVC P s h fun _ h' => K undef h'
    | none => match o.op with
      | .call { callee := .value f, args, .. } => match ρ f with
        | .func (.func f) first captured => match fnOk P f with
          | true => HC P f (first ++ mapA ρ args ++ captured) h fun v h' => exSh (shOf P o.type) fun v' => v = v' ∧ K v' h'
          | false => False
        | _ => False
      | .call { callee := .invoke x name, args, .. } => ∃ (f : Nat) (r : Value), Meth P (ρ x) name f r ∧
          HC P f (#[r] ++ mapA ρ args) h fun v h' => exSh (shOf P o.type) fun v' => v = v' ∧ K v' h'
      | _ => False
/-- the cells of the zero value of a type that holds a row (a structure: so that no reckoning lays them out). -/
structure IsZ (P : Program) (e : TypeId) (cs : Array Value) : Prop where
  eq : cs = zc P e
def effK (P : Program) (o : Oper) (ρ : Operand → Value) (h : Heap) (K : Value → Heap → Prop) : Prop :=
  match o.op with
  | .alloc e => match hasZ P e with
    | true => match bigT P e with
      | true => ∃ z : Array Value, IsZ P e z ∧ K (.pointer (some ⟨h.size, 0, none⟩)) (h.push (.cells z e (0, 0)))
      | false => K (.pointer (some ⟨h.size, 0, none⟩)) (h.push (.cells (zc P e) e (0, 0)))
    | false => False
  | .next it s => SVC P (Instr.next (ρ it) s o.type) h fun v h' => (v = .tuple #[.bool false] ∧ K (.tuple #[.bool false]) h') ∨ match s with
    | true => ∃ i r : Int, v = .tuple #[.bool true, .int .i64 i, .int .i32 r] ∧ K (.tuple #[.bool true, .int .i64 i, .int .i32 r]) h'
    | false => ∃ k x : Value, v = .tuple #[.bool true, k, x] ∧ K (.tuple #[.bool true, k, x]) h'
  | .box e x => K (.pointer (some ⟨h.size, 0, none⟩)) (h.push (.cells (ρ x).cells e (0, 0)))
  | .makeMap _ none => K (.map (some h.size)) (h.push (.map #[] 0))
  | _ => effK0 P o ρ h K

/- ------------------------------------------------------------------ a region -/

def br (b : Bool) (A B : Prop) : Prop := match b with | true => A | false => B
theorem br_intro {b : Bool} {A B : Prop} (ha : b = true → A) (hb : b = false → B) : br b A B := by
  cases b
  · exact hb rfl
  · exact ha rfl
theorem br_elim {b : Bool} {A B : Prop} (h : br b A B) : (b = true → A) ∧ (b = false → B) := by
  cases b
  · exact ⟨fun e => (by cases e), fun _ => h⟩
  · exact ⟨fun _ => h, fun e => (by cases e)⟩

def noKey (l : Env) (d : Nat) : Bool := match l with | [] => true | (u, _, _) :: r => match Nat.beq u d with | true => false | false => noKey r d
def isDead (D : List Path) (p : Path) : Bool := match D with | [] => false | q :: r => sub q p || isDead r p

/-- write a slot: its number is in range, and it is new in the region. -/
def wr (n : Nat) (l : Env) (p : Path) (dst : Option Tmp) (v : Value) (K : Env → Prop) : Prop :=
  match dst with
  | none => K l
  | some d => match Nat.blt d n && noKey l d with
    | true => K ((d, p, v) :: l)
    | false => False

def splitK (l : Env) (D : List Path) : Path → (Env → List Path → Prop) → (Env → List Path → Prop) → Prop
  | [], A, _ => A l D
  | (t, w) :: r, A, B => splitK l D r (fun l D => br (lit w (bval l t)) (A ((t, r, .bool w) :: l) (((t, !w) :: r) :: D)) (B ((t, r, .bool !w) :: l) (((t, w) :: r) :: D))) B

/-- the path of an operation, by its guard. -/
def pathOf (ops : Array Oper) (l : Env) (D : List Path) (o : Oper) : Option Path :=
  match o.guard with
  | none => some []
  | some (j, w) => match (ops[j]?).bind (·.dst) with
    | none => none
    | some t => match lookL l t with
      | some (r, .bool _) => some ((t, w) :: r)
      | some (r, _) => match isDead D r with | true => some r | false => none
      | none => none

def pickDead (l : Env) (D : List Path) (x : Operand) : Bool :=
  match x with
  | .tmp t => match lookL l t with | some (p, _) => isDead D p | none => false
  | _ => false
def okPick (l : Env) (g : Env0) (p : Path) (c : Operand) (w : Bool) (x : Operand) : Bool :=
  okIn l g p x || match c with
    | .tmp t => (lookL l t).isSome && okIn l g ((t, w) :: p) x
    | _ => false

def pickK (l : Env) (g : Env0) (D : List Path) (p : Path) (c a b : Operand) (K : Value → Prop) : Prop :=
  match okIn l g p c with
  | false => False
  | true => match okPick l g p c true a, okPick l g p c false b with
    | true, true => match pickDead l D a with
      | true => match val l g c, val l g b with | .bool false, .bool z => K (.bool z) | _, _ => False
      | false => match pickDead l D b with
        | true => match val l g c, val l g a with | .bool true, .bool y => K (.bool y) | _, _ => False
        | false => match val l g c, val l g a, val l g b with
          | .bool x, .bool y, .bool z => K (.bool (Bool.rec z y x))
          | _, _, _ => False
    | _, _ => False

/-- the values of an operation's slots, told one by one (so that each is a value, and no longer a question to the frame). -/
def withRho (l : Env) (g : Env0) (p : Path) : List Operand → (Env0 → Prop) → Prop
  | [], K => K []
  | .tmp t :: ts, K => match look l g t with
    | some (q, v) => match sub q p with
      | true => withRho l g p ts fun e => K ((t, v) :: e)
      | false => False
    | none => False
  | _ :: ts, K => withRho l g p ts K
def moveK (l : Env) (g : Env0) (p : Path) (x : Operand) (K : Value → Prop) : Prop :=
  match x with
  | .tmp t => match look l g t with
    | some (q, v) => match sub q p with
      | true => K v
      | false => False
    | none => False
  | .const v => K v
  | .global g => K (.pointer (some ⟨g, 0, none⟩))
  | .func f => K (.func (.func f) #[] #[])

/-- reads that may come on either side of what does something: their value must follow from an invariant of the region. -/
def isSt (st : List Nat) (o : Oper) : Bool := match o.dst with | some d => st.contains d | none => false
/-- a text made of bytes: such a read is told as an effect where it may come on either side of one. -/
def isCv (o : Oper) : Bool := match o.op with | .convert .. => true | _ => false
def clsS (P : Program) (st : List Nat) (o : Oper) : Cls := match clsOf P o, isSt st o with
  | .read, true => match isCv o with | true => .eff | false => .pure
  | c, _ => c
def stI (st : List Nat) (ops : Array Oper) (i : Nat) : Bool := match ops[i]? with | some o => isSt st o | none => false
/-- does an operation come behind all such reads? -/
def finB (st : List Nat) (ops : Array Oper) (k : Nat) : Bool :=
  (List.range ops.size).all fun j => match stI st ops j with | true => dep .any ops j ops.size k | false => true
def ivP (iv : Option (Heap → Prop)) (st : List Nat) (ops : Array Oper) : Inv2 := match iv with
  | some I => ⟨fun i h => stI st ops i = true → I h, fun i h => finB st ops i = false → I h⟩
  | none => J0
def andI (iv : Option (Heap → Prop)) (fin : Bool) (h : Heap) (X : Prop) : Prop := match iv with
  | some I => match fin with | false => I h ∧ X | true => X
  | none => X
def sreadK (P : Program) (o : Oper) (ρ : Operand → Value) (iv : Option (Heap → Prop)) (G : Prop → Prop) (K : Value → Prop) : Prop :=
  match iv with
  | none => False
  | some I => match semR o ρ with
    | some s => exSh (shOf P (tyR o)) fun v => G (∀ h', I h' → Reads P s h' v) ∧ K v
    | none => False

def cvK (P : Program) (o : Oper) (ρ : Operand → Value) (h : Heap) (K : Value → Prop) : Prop := match o.op with
  | .convert s d x => exSh (shOf P (tyR o)) fun v => Reads P (convert s d (ρ x)) h v ∧ K v
  | _ => False
def vcOps (P : Program) (iv : Option (Heap → Prop)) (st : List Nat) (n : Nat) (ops : Array Oper) (g : Env0) : Tr → Env → List Path → Heap → (Env → Heap → Prop) → Prop
  | .nil, l, _, h, K => K l h
  | .fork t u, l, D, h, K => vcOps P iv st n ops g t l D h K ∧ vcOps P iv st n ops g u l D h K
  | .cons k rest, l, D, h, K => match ops[k]? with
    | none => False
    | some o => match pathOf ops l D o with
      | none => False
      | some p => match isDead D p with
        | true => wr n l p o.dst undef fun l => vcOps P iv st n ops g rest l D h K
        | false => match o.op with
          | .pick c a b => pickK l g D p c a b fun v => wr n l p o.dst v fun l => vcOps P iv st n ops g rest l D h K
          | .move x => moveK l g p x fun v => wr n l p o.dst v fun l => vcOps P iv st n ops g rest l D h K
          | .assign x => moveK l g p x fun v => wr n l p o.dst v fun l => vcOps P iv st n ops g rest l D h K
          | op => match clsOf P o with
            | .pure => withRho l g p op.operands.toList fun e => pureK P o (val [] e) (gd l p) fun v => wr n l p o.dst v fun l => vcOps P iv st n ops g rest l D h K
            | .read => match isSt st o with
              | false => withRho l g p op.operands.toList fun e => readK P (shR P ops o) o (val [] e) h (gd l p) fun v => wr n l p o.dst v fun l => vcOps P iv st n ops g rest l D h K
              | true => match isCv o with
                | true => splitK l D p
                  (fun l D => withRho l g p op.operands.toList fun e => cvK P o (val [] e) h fun v => andI iv (finB st ops k) h (wr n l p o.dst v fun l => vcOps P iv st n ops g rest l D h K))
                  (fun l D => wr n l p o.dst undef fun l => vcOps P iv st n ops g rest l D h K)
                | false => withRho l g p op.operands.toList fun e => sreadK P o (val [] e) iv (gd l p) fun v => wr n l p o.dst v fun l => vcOps P iv st n ops g rest l D h K
            | .eff => splitK l D p
              (fun l D => withRho l g p op.operands.toList fun e => effK P o (val [] e) h fun v h => andI iv (finB st ops k) h (wr n l p o.dst v fun l => vcOps P iv st n ops g rest l D h K))
              (fun l D => wr n l p o.dst undef fun l => vcOps P iv st n ops g rest l D h K)

/-- the reads of a region that may come on either side of an operation that does something. -/
def stS (P : Program) (ops : Array Oper) : List Nat :=
  (List.range ops.size).filterMap fun k => match ops[k]? with
    | none => none
    | some o => match clsOf P o with
      | .read => match (List.range ops.size).all fun j => match ops[j]? with
          | some oj => match clsOf P oj with | .eff => dep .any ops k ops.size j || dep .any ops j ops.size k | _ => true
          | none => true with
        | true => none
        | false => o.dst
      | _ => none

def delG (t : Nat) : Env0 → Env0
  | [] => []
  | (u, v) :: g => match Nat.beq u t with | true => delG t g | false => (u, v) :: delG t g
def merge : Env → Env0 → Env0
  | [], g => g
  | (t, [], v) :: l, g => (t, v) :: merge l g
  | (t, _ :: _, _) :: l, g => delG t (merge l g)
end Go.Vc
