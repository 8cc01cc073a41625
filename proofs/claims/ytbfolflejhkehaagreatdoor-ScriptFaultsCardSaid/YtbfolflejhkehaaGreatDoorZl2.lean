/-
  Texts of this seat, laid one behind the other: CeB CeC CeD CeE CeF ScV Sc1 ScP ScN Dk2 DkC G2 Dk3. Conditions: none.
-/
import Derived.Test.YtbfolflejhkehaaGreatDoorZl1
import Derived.Shelf.Strings.SplitShaped
import Derived.Shelf.Strconv.AtoiAll
import Derived.Shelf.Strconv.Itoa3
import Derived.Shelf.Lay
import Derived.Ground.NamesProg
import Derived.Test.YtbfolflejhkehaaGreatDoorProg
import Derived.KernelRfl
import Derived.Shelf.SlMaps.Clone
import Derived.Ground.SlmcProg
section
set_option linter.unusedVariables false
set_option linter.unusedSimpArgs false
namespace Go.Ce
open Go Go.Vc

abbrev Res := Option (SV × SH)
/-- calls: of functions with a body, and of those without one. -/
structure CK where
  run : FuncId → List SV → SH → Res
  ext : FuncId → List SV → Option SV

def byte8 (n : Nat) : SV := .v (.int .u8 n)
def newBuf (T : SH) (cs : List SV) (ty : TypeId) (k n : Nat) (z : Bool) : SV × SH := (.osl T.n 0 k n, T.new (.buf cs ty k z))
/-- what is put behind a row, as cells, and how many. -/
def tailS (T : SH) (k : Nat) (x : SV) : Option (List SV × Nat) :=
  match x with
  | .str l => match Nat.beq k 1 with | true => some (l.map byte8, l.length) | false => none
  | x => match rowS T k x, lenR x with
    | some cs, some n => some (cs, n)
    | _, _ => none
def isTupV : Value → Bool
  | .tuple _ => true
  | _ => false
def oneCell : SV → Bool
  | .agg _ => false
  | .tup _ => false
  | .v u => !isTupV u
  | _ => true
def allOne : List SV → Bool
  | [] => true
  | x :: l => oneCell x && allOne l
/-- a row's elements: their type, and one less than their cells. -/
def elemS (P : Program) (ty : Option TypeId) : Option (TypeId × Nat) :=
  match ty.bind P.underlying with
  | some (.slice e) => match szOf P e, P.info? e, zcS P e with
    | some (k + 1), some info, some z => match Nat.beq z.length (k + 1) && Nat.ble info.bytes 1000 && Nat.blt 0 info.bytes with
      | true => some (e, k)
      | false => none
    | _, _, _ => none
  | _ => none
/-- what is appended is no number. -/
def tailOk (P : Program) (ty2 : Option TypeId) : Bool :=
  match ty2 with
  | none => true
  | some t => match P.underlying t with
    | some (.int _) => false
    | some _ => true
    | none => false
def appS (P : Program) (T : SH) (ty ty2 : Option TypeId) (s x : SV) : Res :=
  match elemS P ty, tailOk P ty2 with
  | some (e, k), true => match tailS T (k + 1) x, lenR s with
    | some (new, n), some _ => match Nat.beq n 0, allOne new with
      | true, _ => some (s, T)
      | false, false => none
      | false, true => match s with
        | .v (.slice none 0 0) => match lenOk n with | true => some (newBuf T new e (k + 1) n true) | false => none
        | .sl i off len cap => match Nat.ble (len + n) cap with
          | true => match T.get i with
            | some (.cells vs ty) => match Nat.ble (off + (len + n) * (k + 1)) vs.length with
              | true => some (.sl i off (len + n) cap, T.put i (.cells (putS vs (off + len * (k + 1)) new) ty))
              | false => none
            | _ => none
          | false => match rowS T (k + 1) s, lenOk (len + n) with
            | some old, true => some (newBuf T (old ++ new) e (k + 1) (len + n) true)
            | _, _ => none
        | .osl i eoff k1 len => match T.get i with
          | some (.buf vs ty k2 z) => match Nat.beq k1 (k + 1) && Nat.beq k2 (k + 1) && Nat.beq ty e && Nat.beq vs.length ((eoff + len) * (k + 1)) && lenOk (len + n) with
            | true => some (newBuf (T.kill i) (vs.drop (eoff * (k + 1)) ++ new) e (k + 1) (len + n) (z && Nat.beq eoff 0))
            | false => none
          | _ => none
        | _ => none
    | _, _ => none
  | _, _ => none
def copyS (P : Program) (T : SH) (ty : Option TypeId) (d x : SV) : Res :=
  match elemS P ty with
  | some (e, k) => match tailS T (k + 1) x, lenR d with
    | some (new, n), some m => match Nat.beq (min n m) 0, allOne new with
      | true, _ => some (.v (.int .i64 0), T)
      | false, false => none
      | false, true => match d with
        | .sl i off len cap => match T.get i with
          | some (.cells vs ty) => match Nat.ble (off + len * (k + 1)) vs.length with
            | true => some (.v (.int .i64 (min n m : Nat)), T.put i (.cells (putS vs off (new.take (min n m * (k + 1)))) ty))
            | false => none
          | _ => none
        | _ => none
    | _, _ => none
  | none => none
def storeS (P : Program) (T : SH) (t : TypeId) (a x : SV) : Option SH :=
  match a, szOf P t with
  | .ptr i off, some sz => match Nat.beq x.cells.length sz && allOne x.cells with
    | false => none
    | true => match T.get i with
      | some (.cells vs ty) => match Nat.ble (off + sz) vs.length with
        | true => some (T.put i (.cells (putS vs off x.cells) ty))
        | false => none
      | some (.buf vs ty k z) => match Nat.ble (off + sz) vs.length with
        | true => some (T.put i (.buf (putS vs off x.cells) ty k z))
        | false => none
      | _ => none
  | _, _ => none
def updS : List (SV × SV × Nat) → List Nat → SV → Option (List (SV × SV × Nat))
  | [], _, _ => none
  | (k, v, b) :: es, q, x => match k with
    | .str s => match eqN q s with
      | true => some ((k, x, b) :: es)
      | false => match updS es q x with | some r => some ((k, v, b) :: r) | none => none
    | _ => none
def delS : List (SV × SV × Nat) → List Nat → List (SV × SV × Nat)
  | [], _ => []
  | (k, v, b) :: es, q => match k with
    | .str s => match eqN q s with
      | true => es
      | false => (k, v, b) :: delS es q
    | _ => (k, v, b) :: delS es q
def mapPutS (P : Program) (T : SH) (t : TypeId) (m k x : SV) : Option SH :=
  match P.underlying t with
  | some (.map kt _) => match P.underlying kt, m, k with
    | some .string, .map i, .str q => match T.get i with
      | some (.map es c) => match keysOk es with
        | true => match updS es q x with
          | some es' => some (T.put i (.map es' c))
          | none => some (T.put i (.map (es ++ [(.str q, x, c)]) (c + 1)))
        | false => none
      | _ => none
    | _, _, _ => none
  | _ => none
def delMS (P : Program) (T : SH) (t : Option TypeId) (m k : SV) : Option SH :=
  match t.bind P.underlying with
  | some (.map kt _) => match P.underlying kt, m, k with
    | some .string, .map i, .str q => match T.get i with
      | some (.map es c) => match keysOk es with
        | true => some (T.put i (.map (delS es q) c))
        | false => none
      | _ => none
    | _, _, _ => none
  | _ => none
def rangeS (P : Program) (T : SH) (t : TypeId) (x : SV) : Res :=
  match P.underlying t, x with
  | some .string, .str l => some (.ptr T.n 0, T.new (.siter l 0))
  | some (.map _ _), .map i => match T.get i with
    | some (.map _ c) => some (.ptr T.n 0, T.new (.miter i c [] c))
    | _ => none
  | _, _ => none
def nextS (T : SH) (it : SV) (isString : Bool) : Res :=
  match it with
  | .ptr i 0 => match T.get i, isString with
    | some (.siter l pos), true => match l[pos]? with
      | none => some (.tup [.v (.bool false)], T)
      | some c => match Nat.blt c 128 with
        | true => some (.tup [.v (.bool true), .v (.int .i64 pos), .v (.int .i32 c)], T.put i (.siter l (pos + 1)))
        | false => none
    | some (.miter m since seen last), false => match T.get m with
      | some (.map es clock) => match es.all (fun e => Nat.blt e.2.2 since) && Nat.ble since last, es.filter (fun e => !seen.contains e.2.2) with
        | true, [] => some (.tup [.v (.bool false)], T)
        | true, [(k, v, b)] => some (.tup [.v (.bool true), k, v], T.put i (.miter m since (seen ++ [b]) clock))
        | _, _ => none
      | _ => none
    | _, _ => none
  | _ => none
def entryS (T : SH) (it : SV) : Option SV :=
  match it with
  | .ptr i 0 => match T.get i with
    | some (.miter m _ seen stepped) => match seen.getLast?, T.get m with
      | some s, some (.map es clock) => match Nat.beq clock stepped, es.find? (fun e => Nat.beq e.2.2 s) with
        | true, some (k, v, _) => some (.tup [k, v])
        | _, _ => none
      | _, _ => none
    | _ => none
  | _ => none
def makeSliceS (P : Program) (T : SH) (t : TypeId) (l c : SV) : Res :=
  match elemS P (some t), intS (some l), intS (some c) with
  | some (e, k), some l, some c => match zcS P e, decide (0 ≤ l) && decide (l ≤ c) && decide (c ≤ 1000000) with
    | some z, true => some (.sl T.n 0 l.toNat c.toNat, T.new (.cells ((List.range c.toNat).flatMap fun _ => z) e))
    | _, _ => none
  | _, _, _ => none
def bsS (P : Program) (T : SH) (t : TypeId) (n : Nat) (parts : List (Nat × SV)) : Res :=
  match elemS P (some t) with
  | some (e, k) => match zcS P e, Nat.ble (n * (k + 1)) 4096 with
    | some z, true => match fillS (fun i => some (i * (k + 1), k + 1)) ((List.range n).flatMap fun _ => z) parts with
      | some cs => some (.sl T.n 0 n n, T.new (.cells cs e))
      | none => none
    | _, _ => none
  | none => none

/-- a method of what an interface holds. -/
def methS (P : Program) (t : TypeId) (v : SV) (name : String) : Option FuncId :=
  match P.info? t with
  | some info => match info.methods.find? (·.name == name) with
    | some m => match m.path.toList, m.func, P.underlying t with
      | [], some (f, true), some (.pointer _) => some f
      | [], some (f, false), some (.pointer _) => none
      | [], some (f, false), some _ => some f
      | _, _, _ => none
    | none => none
  | none => none
def countN : List Nat → Nat → Nat
  | [], _ => 0
  | a :: l, c => match Nat.beq a c with | true => countN l c + 1 | false => countN l c
def indexN : List Nat → Nat → Nat → Int
  | [], _, _ => -1
  | a :: l, c, i => match Nat.beq a c with | true => i | false => indexN l c (i + 1)
/-- functions without a body: what they answer. -/
def extCount : List SV → Option SV
  | [.str l, .v (.int .u8 c)] => match decide (0 ≤ c) && decide (c < 256) with | true => some (.v (.int .i64 (countN l c.toNat))) | false => none
  | _ => none
def extIndex : List SV → Option SV
  | [.str l, .v (.int .u8 c)] => match decide (0 ≤ c) && decide (c < 256) with | true => some (.v (.int .i64 (indexN l c.toNat 0))) | false => none
  | _ => none
def extSame : List SV → Option SV
  | [x] => some x
  | _ => none

def callS (P : Program) (ck : CK) (f : FuncId) (args : List SV) (T : SH) : Res :=
  match fnOk P f with
  | true => ck.run f args T
  | false => match ck.ext f args with
    | some v => some (v, T)
    | none => none

def effV (P : Program) (ck : CK) (o : Oper) (ρ : Operand → Option SV) (T : SH) : Res :=
  match o.op with
  | .alloc e => match zcS P e with | some z => some (.ptr T.n 0, T.new (.cells z e)) | none => none
  | .box e x => match ρ x with | some v => some (.ptr T.n 0, T.new (.cells v.cells e)) | none => none
  | .buildSlice t n parts => match partsS ρ parts.toList with | some ps => bsS P T t n ps | none => none
  | .convert s d x => match P.underlying s, P.underlying d, ρ x with
    | some .string, some (.slice e), some (.str l) => match P.underlying e, lenOk l.length with
      | some (.int .u8), true => some (.osl T.n 0 1 l.length, T.new (.ro (l.map byte8)))
      | _, _ => none
    | some (.pointer t), some .unsafePointer, some (.ptr i off) => match szOf P t, T.get i with
      | some (_ + 1), some (.cells vs _) => match Nat.blt off vs.length with | true => some (.ptr i off, T) | false => none
      | _, _ => none
    | some .unsafePointer, some (.pointer t), some (.ptr i off) => match P.info? t, T.get i with
      | some _, some (.cells vs ty) => match liesAt P P.depth ty (vs.length / P.cellsOf ty) off t 1 with | true => some (.ptr i off, T) | false => none
      | _, _ => none
    | _, _, _ => none
  | .makeMap _ none => some (.map T.n, T.new (.map [] 0))
  | .makeMap t (some r) => match P.underlying t, intS (ρ r) with
    | some (.map _ _), some _ => some (.map T.n, T.new (.map [] 0))
    | _, _ => none
  | .makeSlice t l c => match ρ l, ρ c with | some l, some c => makeSliceS P T t l c | _, _ => none
  | .range t x => match ρ x with | some x => rangeS P T t x | none => none
  | .next it s => match ρ it with | some it => nextS T it s | none => none
  | .store t a x => match ρ a, ρ x with
    | some a, some x => match storeS P T t a x with | some T' => some (.v undef, T') | none => none
    | _, _ => none
  | .mapUpdate t m k x | .insert t m k x => match ρ m, ρ k, ρ x with
    | some m, some k, some x => match mapPutS P T t m k x with | some T' => some (.v undef, T') | none => none
    | _, _, _ => none
  | .call { callee := .builtin .append, args, argTypes } => match argsS ρ args.toList with
    | some [s, x] => appS P T (argTypes[0]?) (argTypes[1]?) s x
    | _ => none
  | .call { callee := .builtin .copy, args, argTypes } => match argsS ρ args.toList with
    | some [s, x] => copyS P T (argTypes[0]?) s x
    | _ => none
  | .call { callee := .builtin .delete, args, argTypes } => match argsS ρ args.toList with
    | some [m, k] => match delMS P T (argTypes[0]?) m k with | some T' => some (.tup [], T') | none => none
    | _ => none
  | .call { callee := .builtin .unsafeSliceData, args, .. } => match argsS ρ args.toList with
    | some [.osl i eoff k (_ + 1)] => some (.ptr i (eoff * k), T)
    | _ => none
  | .call { callee := .builtin .unsafeString, args, argTypes } => match argsS ρ args.toList, argTypes.toList with
    | some [.ptr i 0, .v (.int .i64 n)], [pt, _] => match P.underlying pt, T.get i with
      | some (.pointer e), some (.buf vs ty _ true) => match decide (0 < n) && Nat.beq ty e && Nat.beq (P.cellsOf e) 1 && Nat.ble n.toNat vs.length && lenOk n.toNat, bytesS (vs.take n.toNat) with
        | true, some l => some (.str l, T.kill i)
        | _, _ => none
      | _, _ => none
    | _, _ => none
  | .call { callee := .value f, args, .. } => match ρ f, argsS ρ args.toList with
    | some (.fn g first cap), some axs => callS P ck g (first ++ axs ++ cap) T
    | _, _ => none
  | .call { callee := .invoke x name, args, .. } => match ρ x, argsS ρ args.toList with
    | some (.ifc t v), some axs => match methS P t v name with
      | some f => callS P ck f (v :: axs) T
      | none => none
    | _, _ => none
  | _ => none

/- ------------------------------------------------------------------ a region -/

def rhoS (e : SE) : Operand → Option SV
  | .tmp t => e.get t
  | .const u => ofC u
  | .global _ => none
  | .func f => some (.fn f [] [])
def putE (n : Nat) (e : SE) (d : Option Tmp) (v : SV) : Option SE :=
  match d with
  | none => some e
  | some d => match Nat.blt d n with | true => some (Tri.put FU e d (some v)) | false => none
/-- is an operation wanted? -/
def wantS (ops : Array Oper) (e : SE) (o : Oper) : Option Bool :=
  match o.guard with
  | none => some true
  | some (j, w) => match (ops[j]?).bind (·.dst) with
    | none => none
    | some t => match e.get t with
      | some (.v (.bool b)) => some (b == w)
      | some (.v (.tuple _)) => some false
      | _ => none
/-- values without names, held against one another. -/
def eqV : Value → Value → Bool
  | .int k a, .int k' b => eqKind k k' && decide (a = b)
  | .bool a, .bool b => a == b
  | .pointer none, .pointer none => true
  | .slice none 0 0, .slice none 0 0 => true
  | .map none, .map none => true
  | .nilIface, .nilIface => true
  | .nilFunc, .nilFunc => true
  | .tuple a, .tuple b => match a.toList, b.toList with | [], [] => true | _, _ => false
  | _, _ => false
mutual
def eqSV : SV → SV → Bool
  | .v a, .v b => eqV a b
  | .str a, .str b => eqN a b
  | .ptr i a, .ptr j b => Nat.beq i j && Nat.beq a b
  | .sl i a b c, .sl j a' b' c' => Nat.beq i j && Nat.beq a a' && Nat.beq b b' && Nat.beq c c'
  | .osl i a b c, .osl j a' b' c' => Nat.beq i j && Nat.beq a a' && Nat.beq b b' && Nat.beq c c'
  | .esl i a b c, .esl j a' b' c' => Nat.beq i j && Nat.beq a a' && Nat.beq b b' && Nat.beq c c'
  | .map i, .map j => Nat.beq i j
  | .fn f a b, .fn g c d => Nat.beq f g && eqSVL a c && eqSVL b d
  | .ifc t a, .ifc u b => Nat.beq t u && eqSV a b
  | .agg a, .agg b => eqSVL a b
  | .tup a, .tup b => eqSVL a b
  | _, _ => false
def eqSVL : List SV → List SV → Bool
  | [], [] => true
  | a :: x, b :: y => eqSV a b && eqSVL x y
  | _, _ => false
end
def eqES : List (SV × SV × Nat) → List (SV × SV × Nat) → Bool
  | [], [] => true
  | (k, v, b) :: x, (k', v', b') :: y => eqSV k k' && eqSV v v' && Nat.beq b b' && eqES x y
  | _, _ => false
def eqSO : SO → SO → Bool
  | .cells a t, .cells b u => eqSVL a b && Nat.beq t u
  | .buf a t k z, .buf b u l y => eqSVL a b && Nat.beq t u && Nat.beq k l && (z == y)
  | .ro a, .ro b => eqSVL a b
  | .map a c, .map b d => eqES a b && Nat.beq c d
  | .siter a c, .siter b d => eqN a b && Nat.beq c d
  | .miter a b c d, .miter a' b' c' d' => Nat.beq a a' && Nat.beq b b' && eqN c c' && Nat.beq d d'
  | _, _ => false
def eqOpt {α : Type} (f : α → α → Bool) : Option α → Option α → Bool
  | none, none => true
  | some a, some b => f a b
  | _, _ => false
def eqTri {α : Type} (f : α → α → Bool) : Tri α → Tri α → Bool
  | .nil, .nil => true
  | .node l x r, .node l' x' r' => eqTri f l l' && eqOpt f x x' && eqTri f r r'
  | _, _ => false
def eqST (e e' : SE) (T T' : SH) : Bool := Nat.beq T.n T'.n && eqTri eqSV e e' && eqTri eqSO T.t T'.t

/-- names from n on: the first q go behind the p that follow. -/
def rot (n p q i : Nat) : Nat := match Nat.blt i n with
  | true => i
  | false => match Nat.blt (i - n) q with
    | true => i + p
    | false => match Nat.blt (i - n) (p + q) with | true => i - q | false => i
mutual
def renV (r : Nat → Nat) : SV → SV
  | .v u => .v u
  | .str l => .str l
  | .ptr i o => .ptr (r i) o
  | .sl i o n c => .sl (r i) o n c
  | .osl i o k n => .osl (r i) o k n
  | .esl i e0 e k => .esl (r i) e0 e k
  | .map i => .map (r i)
  | .fn f x y => .fn f (renL r x) (renL r y)
  | .ifc t x => .ifc t (renV r x)
  | .agg l => .agg (renL r l)
  | .tup l => .tup (renL r l)
def renL (r : Nat → Nat) : List SV → List SV
  | [] => []
  | x :: l => renV r x :: renL r l
end
def renES (r : Nat → Nat) : List (SV × SV × Nat) → List (SV × SV × Nat)
  | [] => []
  | (k, v, b) :: l => (renV r k, renV r v, b) :: renES r l
def renO (r : Nat → Nat) : SO → SO
  | .cells vs t => .cells (renL r vs) t
  | .buf vs t k z => .buf (renL r vs) t k z
  | .ro vs => .ro (renL r vs)
  | .map es c => .map (renES r es) c
  | .siter l p => .siter l p
  | .miter j s q l => .miter (r j) s q l
def movT (r : Nat → Nat) (n : Nat) (t : Tri SO) : List Nat → Tri SO → Tri SO
  | [], acc => acc
  | d :: ds, acc => movT r n t ds (acc.put FU (r (n + d)) (t.get (n + d)))
def renT (n p q : Nat) (T : SH) : SH :=
  let t := T.t.map (renO (rot n p q))
  ⟨T.n, movT (rot n p q) n t (List.range (p + q)) t⟩
/-- the same, but for the order of the names from n on? -/
def likeST (n : Nat) (e1 : SE) (T1 : SH) (e2 : SE) (T2 : SH) : List (Nat × Nat) → Bool
  | [] => false
  | (p, q) :: l => (Nat.ble (n + (p + q)) T2.n && eqST e1 (e2.map (renV (rot n p q))) T1 (renT n p q T2)) || likeST n e1 T1 e2 T2 l
def perms (D : Nat) : List (Nat × Nat) := [(0, 0), (1, 1), (2, 1), (1, 2), (1, D - 1), (D - 1, 1), (1, D - 2), (D - 2, 1), (2, D - 2), (D - 2, 2), (1, D - 3), (D - 3, 1), (2, D - 3), (D - 3, 2), (3, D - 3), (D - 3, 3), (1, 3), (3, 1), (1, 4), (4, 1), (2, 2), (2, 3), (3, 2), (1, 5), (5, 1), (3, 3), (4, 2), (2, 4)]
/-- what a look that may come on either side of what does something looks at: a place that was there ahead of the region. -/
structure Lk where
  k : Nat
  i : Nat
  off : Nat
  t : TypeId
  v : SV
def lkOf (L : List Lk) (k : Nat) : Option Lk := L.find? fun x => Nat.beq x.k k

/-- one operation. -/
def stepS (P : Program) (ck : CK) (o : Oper) (e : SE) (T : SH) : Res :=
  match clsOf P o with
  | .pure => match peV P o (rhoS e) with | some v => some (v, T) | none => none
  | .read => match o.op with
    | .entry it => match rhoS e it with
      | some it => match entryS T it with | some v => some (v, T) | none => none
      | none => none
    | _ => match reV P o (rhoS e) T with | some v => some (v, T) | none => none
  | .eff => effV P ck o (rhoS e) T
/-- do such looks (of those numbers) still yield the same? -/
def lookOk (P : Program) (T : SH) (ks : List Nat) : List Lk → Bool
  | [] => true
  | x :: l => (match ks.contains x.k with
    | false => true
    | true => match loadS P T x.t (.ptr x.i x.off) with
      | some v => eqSV v x.v
      | none => false) && lookOk P T ks l
/-- the looks of a region that may come on either side of what does something, found by its other operations, in the text's order. -/
def colL (P : Program) (n : Nat) (T : SH) (st : List Nat) : List (Oper × Nat) → SE → List Lk
  | [], _ => []
  | (o, k) :: l, e =>
    let put (v : Option SV) : SE := match v with | none => e | some v => match putE n e o.dst v with | some e' => e' | none => e
    match clsOf P o with
    | .pure => colL P n T st l (put (peV P o (rhoS e)))
    | .eff => colL P n T st l e
    | .read => match isSt st o, o.op with
      | true, .load t a => match rhoS e a with
        | some (.ptr i off) => match loadS P T t (.ptr i off), Nat.blt i T.n with
          | some v, true => ⟨k, i, off, t, v⟩ :: colL P n T st l (put (some v))
          | _, _ => colL P n T st l e
        | _ => colL P n T st l e
      | _, .entry _ => colL P n T st l e
      | _, _ => colL P n T st l (put (reV P o (rhoS e) T))
def runT (P : Program) (ck : CK) (n : Nat) (ops : Array Oper) : Tr → SE → SH → Option (SE × SH)
  | .nil, e, T => some (e, T)
  | .fork t u, e, T => none
  | .cons k rest, e, T => match ops[k]? with
    | none => none
    | some o => match wantS ops e o with
      | none => none
      | some false => match putE n e o.dst (.v undef) with
        | some e => runT P ck n ops rest e T
        | none => none
      | some true => match stepS P ck o e T with
        | none => none
        | some (v, T) => match putE n e o.dst v with
          | some e => runT P ck n ops rest e T
          | none => none

/-- a look that may come on either side of what does something, and hangs on no memory. -/
def inV (P : Program) (o : Oper) (ρ : Operand → Option SV) : Option SV :=
  match o.op with
  | .binOp op t x y _ => match ρ x, ρ y with
    | some a, some b => match eqO P t x y a b with
      | some r => match op with
        | .eql => some (.v (.bool r))
        | .neq => some (.v (.bool !r))
        | _ => none
      | none => none
    | _, _ => none
  | .call { callee := .builtin .min, args, .. } => match argsS ρ args.toList with
    | some [.v (.int k a), .v (.int _ b)] => some (.v (.int k (match decide (b < a) with | true => b | false => a)))
    | _ => none
  | .call { callee := .builtin .max, args, .. } => match argsS ρ args.toList with
    | some [.v (.int k a), .v (.int _ b)] => some (.v (.int k (match decide (b > a) with | true => b | false => a)))
    | _ => none
  | _ => none
/-- one operation of a region that draws its order. -/
def stepX (P : Program) (ck : CK) (st : List Nat) (L : List Lk) (ops : Array Oper) (k : Nat) (o : Oper) (e : SE) (T : SH) : Res :=
  match clsOf P o, isSt st o with
  | .read, true => match isCv o with
    | true => match reV P o (rhoS e) T with
      | some v => match lookOk P T (behB st ops k) L with | true => some (v, T) | false => none
      | none => none
    | false => match o.op with
      | .load t a => match rhoS e a, lkOf L k with
        | some (.ptr i off), some x => match Nat.beq i x.i && Nat.beq off x.off && Nat.beq t x.t with
          | true => some (x.v, T)
          | false => none
        | _, _ => none
      | _ => match inV P o (rhoS e) with | some v => some (v, T) | none => none
  | .eff, _ => match effV P ck o (rhoS e) T with
    | some (v, T') => match lookOk P T' (behB st ops k) L with | true => some (v, T') | false => none
    | none => none
  | _, _ => stepS P ck o e T
def runX (P : Program) (ck : CK) (n : Nat) (st : List Nat) (L : List Lk) (ops : Array Oper) : Tr → SE → SH → Option (SE × SH)
  | .nil, e, T => some (e, T)
  | .fork t u, e, T => match runX P ck n st L ops t e T, runX P ck n st L ops u e T with
    | some (e1, T1), some (e2, T2) => match likeST T.n e1 T1 e2 T2 (perms (T2.n - T.n)) with
      | true => some (e1, T1)
      | false => none
    | _, _ => none
  | .cons k rest, e, T => match ops[k]? with
    | none => none
    | some o => match wantS ops e o with
      | none => none
      | some false => match putE n e o.dst (.v undef) with
        | some e => runX P ck n st L ops rest e T
        | none => none
      | some true => match stepX P ck st L ops k o e T with
        | none => none
        | some (v, T) => match putE n e o.dst v with
          | some e => runX P ck n st L ops rest e T
          | none => none

inductive Out where
  | normal
  | exit (i : Nat)
  | ret

def loopS (body : SE → SH → Option (Out × SE × SH)) : Nat → SE → SH → Option (Out × SE × SH)
  | 0, _, _ => none
  | f + 1, e, T => match body e T with
    | some (.normal, e, T) => loopS body f e T
    | r => r
def resS (P : Program) (e : SE) (T : SH) : List ResultVar → Option (List SV)
  | [] => some []
  | .tmp t :: r => match e.get t, resS P e T r with | some v, some vs => some (v :: vs) | _, _ => none
  | .cell t ty :: r => match e.get t with
    | some x => match loadS P T ty x, resS P e T r with | some v, some vs => some (v :: vs) | _, _ => none
    | none => none
def oneS (vs : List SV) : SV := match vs with | [v] => v | vs => .tup vs
def argE : Nat → List SV → SE → SE
  | _, [], e => e
  | k, v :: vs, e => argE (k + 1) vs (Tri.put FU e k (some v))

/-- functions that are told by a contract. -/
abbrev PK := FuncId → List SV → SH → Res
/-- maps.Clone. -/
def plugClone : List SV → SH → Res
  | [.map i], T => match T.get i with
    | some (.map es c) => some (.map T.n, T.new (.map es c))
    | _ => none
  | _, _ => none
end Go.Ce
end

section
set_option linter.unusedVariables false
set_option linter.unusedSimpArgs false
namespace Go.Ce
open Go Go.Vc

/- ------------------------------------------------------------------ the tree -/

theorem Tri.get_node {α : Type} (l r : Tri α) (x : Option α) (i : Nat) : (Tri.node l x r).get i = if i = 0 then x else if i % 2 = 1 then l.get (i / 2) else r.get (i / 2 - 1) := by
  simp only [Tri.get]
  by_cases h0 : i = 0
  · subst h0; rfl
  · have e0 : Nat.beq i 0 = false := by
      cases h : Nat.beq i 0 with
      | false => rfl
      | true => exact absurd (Nat.eq_of_beq_eq_true h) h0
    simp only [e0, if_neg h0]
    by_cases h1 : i % 2 = 1
    · have e1 : Nat.beq (i % 2) 1 = true := by rw [h1]; rfl
      simp only [e1, if_pos h1]
    · have e1 : Nat.beq (i % 2) 1 = false := by
        cases h : Nat.beq (i % 2) 1 with
        | false => rfl
        | true => exact absurd (Nat.eq_of_beq_eq_true h) h1
      simp only [e1, if_neg h1]
theorem Tri.get_left {α : Type} (t : Tri α) (i : Nat) (h : i % 2 = 1) : t.left.get (i / 2) = t.get i := by
  cases t with
  | nil => rfl
  | node l x r => rw [Tri.get_node, if_neg (by intro e; subst e; cases h), if_pos h]; rfl
theorem Tri.get_right {α : Type} (t : Tri α) (i : Nat) (h0 : i ≠ 0) (h : i % 2 ≠ 1) : t.right.get (i / 2 - 1) = t.get i := by
  cases t with
  | nil => rfl
  | node l x r => rw [Tri.get_node, if_neg h0, if_neg h]; rfl
theorem Tri.get_top {α : Type} (t : Tri α) : t.top = t.get 0 := by cases t <;> rfl
theorem Tri.put_succ {α : Type} (f : Nat) (t : Tri α) (i : Nat) (x : Option α) : Tri.put (f + 1) t i x =
    if i = 0 then .node t.left x t.right else if i % 2 = 1 then .node (Tri.put f t.left (i / 2) x) t.top t.right else .node t.left t.top (Tri.put f t.right (i / 2 - 1) x) := by
  show (match Nat.beq i 0 with | true => _ | false => _) = _
  by_cases h0 : i = 0
  · subst h0; rfl
  · have e0 : Nat.beq i 0 = false := by
      cases h : Nat.beq i 0 with
      | false => rfl
      | true => exact absurd (Nat.eq_of_beq_eq_true h) h0
    simp only [e0, if_neg h0]
    by_cases h1 : i % 2 = 1
    · have e1 : Nat.beq (i % 2) 1 = true := by rw [h1]; rfl
      simp only [e1, if_pos h1]
    · have e1 : Nat.beq (i % 2) 1 = false := by
        cases h : Nat.beq (i % 2) 1 with
        | false => rfl
        | true => exact absurd (Nat.eq_of_beq_eq_true h) h1
      simp only [e1, if_neg h1]
theorem Tri.get_put {α : Type} : ∀ (f : Nat) (t : Tri α) (i : Nat) (x : Option α) (j : Nat) (o : α), (Tri.put f t i x).get j = some o → (i = j ∧ x = some o) ∨ (i ≠ j ∧ t.get j = some o)
  | 0, t, i, x, j, o, h => by simp [Tri.put, Tri.get] at h
  | f + 1, t, i, x, j, o, h => by
    rw [Tri.put_succ] at h
    by_cases hi : i = 0
    · rw [if_pos hi, Tri.get_node] at h
      subst hi
      by_cases hj : j = 0
      · subst hj; rw [if_pos rfl] at h; exact .inl ⟨rfl, h⟩
      · rw [if_neg hj] at h
        refine .inr ⟨fun e => hj e.symm, ?_⟩
        by_cases h1 : j % 2 = 1
        · rwa [if_pos h1, Tri.get_left t j h1] at h
        · rwa [if_neg h1, Tri.get_right t j hj h1] at h
    · rw [if_neg hi] at h
      by_cases h1 : i % 2 = 1
      · rw [if_pos h1, Tri.get_node] at h
        by_cases hj : j = 0
        · subst hj; rw [if_pos rfl, Tri.get_top] at h; exact .inr ⟨hi, h⟩
        · rw [if_neg hj] at h
          by_cases hj1 : j % 2 = 1
          · rw [if_pos hj1] at h
            rcases Tri.get_put f _ _ _ _ _ h with ⟨e, hx⟩ | ⟨e, hx⟩
            · exact .inl ⟨by omega, hx⟩
            · exact .inr ⟨fun e' => e (by rw [e']), by rwa [Tri.get_left t j hj1] at hx⟩
          · rw [if_neg hj1, Tri.get_right t j hj hj1] at h
            exact .inr ⟨fun e => hj1 (e ▸ h1), h⟩
      · rw [if_neg h1, Tri.get_node] at h
        by_cases hj : j = 0
        · subst hj; rw [if_pos rfl, Tri.get_top] at h; exact .inr ⟨hi, h⟩
        · rw [if_neg hj] at h
          by_cases hj1 : j % 2 = 1
          · rw [if_pos hj1, Tri.get_left t j hj1] at h
            exact .inr ⟨fun e => h1 (e ▸ hj1), h⟩
          · rw [if_neg hj1] at h
            rcases Tri.get_put f _ _ _ _ _ h with ⟨e, hx⟩ | ⟨e, hx⟩
            · exact .inl ⟨by omega, hx⟩
            · exact .inr ⟨fun e' => e (by rw [e']), by rwa [Tri.get_right t j hj hj1] at hx⟩

/- ------------------------------------------------------------------ values -/

abbrev M := List (Nat × Nat × Nat)
def lt256 : List Nat → Bool
  | [] => true
  | a :: l => Nat.blt a 256 && lt256 l
def bytesOf (l : List Nat) : ByteArray := ⟨(l.map UInt8.ofNat).toArray⟩
mutual
def conc (m : M) : SV → Option Value
  | .v u => match isAggV u with | true => none | false => some u
  | .str l => match lt256 l with | true => some (.string (bytesOf l)) | false => none
  | .ptr i off => match m[i]? with
    | some (b, o, _) => some (.pointer (some ⟨b, o + off, none⟩))
    | none => none
  | .sl i off n c => match m[i]? with
    | some (b, o, _) => match Nat.ble n c with | true => some (.slice (some ⟨b, o + off, none⟩) n c) | false => none
    | none => none
  | .osl i eo k n => match m[i]? with
    | some (b, o, c) => match Nat.ble (eo + n) c with | true => some (.slice (some ⟨b, o + eo * k, none⟩) n (c - eo)) | false => none
    | none => none
  | .esl i e0 e k => match m[i]? with
    | some (b, o, c) => some (.slice (some ⟨b, o + (if c ≤ e then e0 else e) * k, none⟩) 0 (c - e))
    | none => none
  | .map i => match m[i]? with
    | some (b, _, _) => some (.map (some b))
    | none => none
  | .fn f a b => match concL m a, concL m b with
    | some x, some y => some (.func (.func f) x.toArray y.toArray)
    | _, _ => none
  | .ifc t x => match conc m x with
    | some u => some (.iface t u)
    | none => none
  | .agg l => match concL m l with
    | some us => some (.agg us.toArray)
    | none => none
  | .tup l => match concL m l with
    | some us => some (.tuple us.toArray)
    | none => none
def concL (m : M) : List SV → Option (List Value)
  | [] => some []
  | x :: l => match conc m x, concL m l with
    | some u, some us => some (u :: us)
    | _, _ => none
end

theorem concL_cons {m : M} {x : SV} {l : List SV} {us : List Value} : concL m (x :: l) = some us ↔ ∃ u us', conc m x = some u ∧ concL m l = some us' ∧ us = u :: us' := by
  simp only [concL]
  cases hx : conc m x with
  | none => simp
  | some u => cases hl : concL m l with
    | none => simp
    | some us' => simp [eq_comm]
theorem concL_nil {m : M} : concL m [] = some [] := by simp [concL]
theorem concL_len {m : M} : ∀ {l : List SV} {us : List Value}, concL m l = some us → us.length = l.length
  | [], us, h => by rw [concL_nil] at h; cases h; rfl
  | x :: l, us, h => by
    obtain ⟨u, us', _, h2, rfl⟩ := concL_cons.1 h
    simp [concL_len h2]
theorem concL_get {m : M} : ∀ {l : List SV} {us : List Value} {i : Nat} {x : SV}, concL m l = some us → l[i]? = some x → ∃ u, conc m x = some u ∧ us[i]? = some u
  | [], us, i, x, h, hi => by simp at hi
  | y :: l, us, 0, x, h, hi => by
    obtain ⟨u, us', h1, h2, rfl⟩ := concL_cons.1 h
    simp only [List.getElem?_cons_zero, Option.some.injEq] at hi
    subst hi
    exact ⟨u, h1, rfl⟩
  | y :: l, us, i + 1, x, h, hi => by
    obtain ⟨u, us', h1, h2, rfl⟩ := concL_cons.1 h
    simp only [List.getElem?_cons_succ] at hi ⊢
    exact concL_get h2 hi
theorem concL_append {m : M} : ∀ {l l' : List SV} {us us' : List Value}, concL m l = some us → concL m l' = some us' → concL m (l ++ l') = some (us ++ us')
  | [], l', us, us', h, h' => by rw [concL_nil] at h; cases h; exact h'
  | x :: l, l', us, us', h, h' => by
    obtain ⟨u, us2, h1, h2, rfl⟩ := concL_cons.1 h
    exact concL_cons.2 ⟨u, us2 ++ us', h1, concL_append h2 h', rfl⟩
theorem concL_drop {m : M} : ∀ {n : Nat} {l : List SV} {us : List Value}, concL m l = some us → concL m (l.drop n) = some (us.drop n)
  | 0, l, us, h => by simpa using h
  | n + 1, [], us, h => by rw [concL_nil] at h; cases h; simp [concL_nil]
  | n + 1, x :: l, us, h => by
    obtain ⟨u, us2, h1, h2, rfl⟩ := concL_cons.1 h
    simpa using concL_drop (n := n) h2
theorem concL_take {m : M} : ∀ {n : Nat} {l : List SV} {us : List Value}, concL m l = some us → concL m (l.take n) = some (us.take n)
  | 0, l, us, h => by simp [concL_nil]
  | n + 1, [], us, h => by rw [concL_nil] at h; cases h; simp [concL_nil]
  | n + 1, x :: l, us, h => by
    obtain ⟨u, us2, h1, h2, rfl⟩ := concL_cons.1 h
    simp only [List.take_succ_cons]
    exact concL_cons.2 ⟨u, us2.take n, h1, concL_take h2, rfl⟩
theorem concL_set {m : M} : ∀ {l : List SV} {us : List Value} {i : Nat} {x : SV} {u : Value}, concL m l = some us → conc m x = some u → concL m (l.set i x) = some (us.set i u)
  | [], us, i, x, u, h, hx => by rw [concL_nil] at h; cases h; simp [concL_nil]
  | y :: l, us, 0, x, u, h, hx => by
    obtain ⟨u', us2, h1, h2, rfl⟩ := concL_cons.1 h
    simp only [List.set_cons_zero]
    exact concL_cons.2 ⟨u, us2, hx, h2, rfl⟩
  | y :: l, us, i + 1, x, u, h, hx => by
    obtain ⟨u', us2, h1, h2, rfl⟩ := concL_cons.1 h
    simp only [List.set_cons_succ]
    exact concL_cons.2 ⟨u', us2.set i u, h1, concL_set h2 hx, rfl⟩
theorem concL_put {m : M} : ∀ {vs : List SV} {us : List Value} {l : List SV} {ls : List Value} {i : Nat}, concL m l = some ls → concL m vs = some us → concL m (putS l i vs) = some (putL ls i us)
  | [], us, l, ls, i, h, hv => by rw [concL_nil] at hv; cases hv; exact h
  | v :: vs, us, l, ls, i, h, hv => by
    obtain ⟨u, us2, h1, h2, rfl⟩ := concL_cons.1 hv
    show concL m (putS (l.set i v) (i + 1) vs) = some (putL (ls.set i u) (i + 1) us2)
    exact concL_put (concL_set h h1) h2
theorem concL_flat {m : M} {z : List SV} {zs : List Value} (hz : concL m z = some zs) : ∀ (l : List Nat), concL m (l.flatMap fun _ => z) = some (l.flatMap fun _ => zs)
  | [] => by simp [concL_nil]
  | _ :: l => by simp only [List.flatMap_cons]; exact concL_append hz (concL_flat hz l)

/-- more names. -/
def Le (m m' : M) : Prop := ∀ (i : Nat) (x : Nat × Nat × Nat), m[i]? = some x → m'[i]? = some x
theorem Le.refl (m : M) : Le m m := fun _ _ h => h
theorem Le.trans {a b c : M} (h : Le a b) (k : Le b c) : Le a c := fun i x hx => k i x (h i x hx)
theorem Le.push (m : M) (x : Nat × Nat × Nat) : Le m (m ++ [x]) := fun i y h => by
  rw [List.getElem?_append_left (List.getElem?_eq_some_iff.1 h).1]; exact h
mutual
theorem conc_mono {m m' : M} (hm : Le m m') : ∀ (x : SV) {u : Value}, conc m x = some u → conc m' x = some u
  | .v u, _, h => by simpa only [conc] using h
  | .str l, _, h => by simpa only [conc] using h
  | .ptr i off, u, h => by
    simp only [conc] at h ⊢
    cases hi : m[i]? with
    | none => simp [hi] at h
    | some x => rw [hm i x hi]; simpa [hi] using h
  | .sl i off n c, u, h => by
    simp only [conc] at h ⊢
    cases hi : m[i]? with
    | none => simp [hi] at h
    | some x => rw [hm i x hi]; simpa [hi] using h
  | .osl i eo k n, u, h => by
    simp only [conc] at h ⊢
    cases hi : m[i]? with
    | none => simp [hi] at h
    | some x => rw [hm i x hi]; simpa [hi] using h
  | .esl i e0 e k, u, h => by
    simp only [conc] at h ⊢
    cases hi : m[i]? with
    | none => simp [hi] at h
    | some x => rw [hm i x hi]; simpa [hi] using h
  | .map i, u, h => by
    simp only [conc] at h ⊢
    cases hi : m[i]? with
    | none => simp [hi] at h
    | some x => rw [hm i x hi]; simpa [hi] using h
  | .fn f a b, u, h => by
    simp only [conc] at h ⊢
    cases ha : concL m a with
    | none => simp [ha] at h
    | some x => cases hb : concL m b with
      | none => simp [ha, hb] at h
      | some y => rw [concL_mono hm a ha, concL_mono hm b hb]; simpa [ha, hb] using h
  | .ifc t x, u, h => by
    simp only [conc] at h ⊢
    cases ha : conc m x with
    | none => simp [ha] at h
    | some y => rw [conc_mono hm x ha]; simpa [ha] using h
  | .agg l, u, h => by
    simp only [conc] at h ⊢
    cases ha : concL m l with
    | none => simp [ha] at h
    | some y => rw [concL_mono hm l ha]; simpa [ha] using h
  | .tup l, u, h => by
    simp only [conc] at h ⊢
    cases ha : concL m l with
    | none => simp [ha] at h
    | some y => rw [concL_mono hm l ha]; simpa [ha] using h
theorem concL_mono {m m' : M} (hm : Le m m') : ∀ (l : List SV) {us : List Value}, concL m l = some us → concL m' l = some us
  | [], us, h => by simpa only [concL] using h
  | x :: l, us, h => by
    obtain ⟨u, us', h1, h2, rfl⟩ := concL_cons.1 h
    exact concL_cons.2 ⟨u, us', conc_mono hm x h1, concL_mono hm l h2, rfl⟩
end
theorem conc_cells {m : M} {x : SV} {u : Value} (h : conc m x = some u) : concL m x.cells = some u.cells.toList := by
  have one : ∀ {x : SV} {u : Value}, conc m x = some u → concL m [x] = some [u] := fun h => concL_cons.2 ⟨_, [], h, concL_nil, rfl⟩
  cases x with
  | agg l =>
    simp only [conc] at h
    cases hl : concL m l with
    | none => simp [hl] at h
    | some us =>
      simp only [hl, Option.some.injEq] at h
      subst h
      exact hl
  | v u' =>
    have h' := h
    simp only [conc] at h
    cases ha : isAggV u' with
    | true => simp [ha] at h
    | false =>
      simp only [ha, Option.some.injEq] at h
      subst h
      have : u'.cells.toList = [u'] := by cases u' <;> first | rfl | simp [isAggV] at ha
      rw [this]; exact one h'
  | str l => 
    have h' := h
    simp only [conc] at h
    cases ha : lt256 l <;> simp [ha] at h
    subst h; exact one h'
  | ptr i off =>
    have h' := h
    simp only [conc] at h
    cases hi : m[i]? with
    | none => simp [hi] at h
    | some y => simp only [hi, Option.some.injEq] at h; subst h; exact one h'
  | sl i off n c =>
    have h' := h
    simp only [conc] at h
    cases hi : m[i]? with
    | none => simp [hi] at h
    | some y =>
      simp only [hi] at h
      cases hb : Nat.ble n c with
      | false => simp [hb] at h
      | true => simp only [hb, Option.some.injEq] at h; subst h; exact one h'
  | osl i eo k n =>
    have h' := h
    simp only [conc] at h
    cases hi : m[i]? with
    | none => simp [hi] at h
    | some y =>
      obtain ⟨b, o, c⟩ := y
      simp only [hi] at h
      cases hb : Nat.ble (eo + n) c with
      | false => simp [hb] at h
      | true => simp only [hb, Option.some.injEq] at h; subst h; exact one h'
  | esl i e0 e k =>
    have h' := h
    simp only [conc] at h
    cases hi : m[i]? with
    | none => simp [hi] at h
    | some y => obtain ⟨b, o, c⟩ := y; simp only [hi, Option.some.injEq] at h; subst h; exact one h'
  | map i =>
    have h' := h
    simp only [conc] at h
    cases hi : m[i]? with
    | none => simp [hi] at h
    | some y => simp only [hi, Option.some.injEq] at h; subst h; exact one h'
  | fn f a b =>
    have h' := h
    simp only [conc] at h
    cases ha : concL m a with
    | none => simp [ha] at h
    | some x => cases hb : concL m b with
      | none => simp [ha, hb] at h
      | some y => simp only [ha, hb, Option.some.injEq] at h; subst h; exact one h'
  | ifc t x =>
    have h' := h
    simp only [conc] at h
    cases ha : conc m x with
    | none => simp [ha] at h
    | some y => simp only [ha, Option.some.injEq] at h; subst h; exact one h'
  | tup l =>
    have h' := h
    simp only [conc] at h
    cases ha : concL m l with
    | none => simp [ha] at h
    | some y => simp only [ha, Option.some.injEq] at h; subst h; exact one h'

theorem nat8_of (b : UInt8) : UInt8.ofNat (nat8 b) = b := by simp [nat8]
theorem lt256_map : ∀ (l : List UInt8), lt256 (l.map nat8) = true
  | [] => rfl
  | b :: l => by
    simp only [List.map_cons, lt256, Bool.and_eq_true]
    refine ⟨?_, lt256_map l⟩
    have : nat8 b < 256 := by simpa [nat8] using b.toNat_lt
    exact Nat.ble_eq_true_of_le this
theorem bytesOf_map (s : ByteArray) : bytesOf (s.data.toList.map nat8) = s := by
  unfold bytesOf
  rw [List.map_map]
  have : (UInt8.ofNat ∘ nat8) = id := funext nat8_of
  rw [this, List.map_id]
theorem conc_ofV (m : M) (u : Value) (h : isAggV u = false) : conc m (ofV u) = some u := by
  cases u <;> first
    | (simp only [isAggV, reduceCtorEq] at h; done)
    | (simp only [ofV, conc]; rfl)
    | skip
  case string s => simp only [ofV, conc, lt256_map, bytesOf_map]
theorem concL_ofVs (m : M) : ∀ (vs : List Value), flatB vs = true → concL m (ofVs vs) = some vs
  | [], _ => concL_nil
  | v :: vs, h => by
    simp only [flatB, Bool.and_eq_true, Bool.not_eq_true'] at h
    exact concL_cons.2 ⟨v, vs, conc_ofV m v h.1, concL_ofVs m vs h.2, rfl⟩
theorem conc_ofC {m : M} {u : Value} {x : SV} (h : ofC u = some x) : conc m x = some u := by
  cases u <;> simp only [ofC, Option.some.injEq] at h <;> first
    | (subst h; exact conc_ofV m _ rfl)
    | skip
  case agg cs =>
    cases hf : flatB cs.toList with
    | false => simp [hf] at h
    | true =>
      simp only [hf, Option.some.injEq] at h
      subst h
      simp only [conc, concL_ofVs m _ hf]
theorem conc_zc {P : Program} {t : TypeId} {m : M} {z : List SV} (h : zcS P t = some z) : ∃ zv, (P.info? t).bind (·.zero) = some zv ∧ concL m z = some zv.cells.toList := by
  unfold zcS at h
  cases hz : (P.info? t).bind (·.zero) with
  | none => simp [hz] at h
  | some zv =>
    simp only [hz] at h
    cases hf : flatB zv.cells.toList with
    | false => simp [hf] at h
    | true =>
      simp only [hf, Option.some.injEq] at h
      subst h
      exact ⟨zv, rfl, concL_ofVs m _ hf⟩

/- ------------------------------------------------------------------ heaps -/

def concE (m : M) : List (SV × SV × Nat) → Option (List MapEntry)
  | [] => some []
  | (k, v, b) :: es => match conc m k, conc m v, concE m es with
    | some k, some v, some es => some ({ key := k, val := v, born := b } :: es)
    | _, _, _ => none
theorem concE_cons {m : M} {k v : SV} {b : Nat} {es : List (SV × SV × Nat)} {us : List MapEntry} : concE m ((k, v, b) :: es) = some us ↔ ∃ k' v' us', conc m k = some k' ∧ conc m v = some v' ∧ concE m es = some us' ∧ us = { key := k', val := v', born := b } :: us' := by
  simp only [concE]
  cases hk : conc m k with
  | none => simp
  | some k' => cases hv : conc m v with
    | none => simp
    | some v' => cases he : concE m es with
      | none => simp
      | some us' => simp [eq_comm]
theorem concE_mono {m m' : M} (hm : Le m m') : ∀ {es : List (SV × SV × Nat)} {us : List MapEntry}, concE m es = some us → concE m' es = some us
  | [], us, h => by simpa [concE] using h
  | (k, v, b) :: es, us, h => by
    obtain ⟨k', v', us', h1, h2, h3, rfl⟩ := concE_cons.1 h
    exact concE_cons.2 ⟨k', v', us', conc_mono hm k h1, conc_mono hm v h2, concE_mono hm h3, rfl⟩

/-- what an object of the shadows stands for, in a block whose row begins at off, with room for cap. -/
def ObjR (m : M) (off cap : Nat) : SO → Obj → Prop
  | .cells vs ty, ob => off = 0 ∧ ∃ us, concL m vs = some us ∧ ob = .cells us.toArray ty (0, 0)
  | .buf vs ty k z, ob => (z = true → off = 0) ∧ ∃ us pre tail, concL m vs = some us ∧ ob = .cells (pre ++ (us ++ tail)).toArray ty (0, 0) ∧ pre.length = off ∧ us.length + tail.length = cap * k
  | .ro vs, ob => off = 0 ∧ ∃ us tail ty fr, concL m vs = some us ∧ ob = .cells (us ++ tail).toArray ty fr
  | .map es c, ob => ∃ us, concE m es = some us ∧ ob = .map us.toArray c
  | .siter l pos, ob => off = 0 ∧ lt256 l = true ∧ ob = .stringIter (bytesOf l) pos
  | .miter j since seen last, ob => off = 0 ∧ ∃ b x y, m[j]? = some (b, x, y) ∧ ob = .mapIter (some b) since seen.toArray last
theorem ObjR.mono {m m' : M} (hm : Le m m') {off cap : Nat} {o : SO} {ob : Obj} (h : ObjR m off cap o ob) : ObjR m' off cap o ob := by
  cases o with
  | cells vs ty => obtain ⟨h0, us, h1, h2⟩ := h; exact ⟨h0, us, concL_mono hm _ h1, h2⟩
  | buf vs ty k z => obtain ⟨hz, us, pre, tail, h1, h2⟩ := h; exact ⟨hz, us, pre, tail, concL_mono hm _ h1, h2⟩
  | ro vs => obtain ⟨h0, us, tail, ty, fr, h1, h2⟩ := h; exact ⟨h0, us, tail, ty, fr, concL_mono hm _ h1, h2⟩
  | map es c => obtain ⟨us, h1, h2⟩ := h; exact ⟨us, concE_mono hm h1, h2⟩
  | siter l pos => exact h
  | miter j since seen last => obtain ⟨h0, b, x, y, h1, h2⟩ := h; exact ⟨h0, b, x, y, hm _ _ h1, h2⟩

/-- a heap of shadows stands for a heap; h0 is the heap that was there at first. -/
structure Rel (h0 : Heap) (m : M) (T : SH) (h : Heap) : Prop where
  len : m.length = T.n
  live : ∀ i o, T.get i = some o → ∃ b off cap ob, m[i]? = some (b, off, cap) ∧ (o.isRo = false → h0.size ≤ b) ∧ h[b]? = some ob ∧ ObjR m off cap o ob
  inj : ∀ i j o o' b x y x' y', T.get i = some o → T.get j = some o' → m[i]? = some (b, x, y) → m[j]? = some (b, x', y') → i = j
  size : h0.size ≤ h.size
  old : ∀ k, k < h0.size → h[k]? = h0[k]?

theorem SH.get_put {T : SH} {i j : Nat} {o o' : SO} (h : (T.put i o).get j = some o') : (i = j ∧ o = o') ∨ (i ≠ j ∧ T.get j = some o') := by
  rcases Tri.get_put _ _ _ _ _ _ h with ⟨h1, h2⟩ | h
  · exact .inl ⟨h1, Option.some.inj h2⟩
  · exact .inr h
theorem SH.get_kill {T : SH} {i j : Nat} {o' : SO} (h : (T.kill i).get j = some o') : i ≠ j ∧ T.get j = some o' := by
  rcases Tri.get_put _ _ _ _ _ _ h with ⟨h1, h2⟩ | h
  · cases h2
  · exact h
theorem SH.get_new {T : SH} {j : Nat} {o o' : SO} (h : (T.new o).get j = some o') : (T.n = j ∧ o = o') ∨ (T.n ≠ j ∧ T.get j = some o') := by
  rcases Tri.get_put _ _ _ _ _ _ h with ⟨h1, h2⟩ | h
  · exact .inl ⟨h1, Option.some.inj h2⟩
  · exact .inr h

section
variable {h0 : Heap} {m : M} {T : SH} {h : Heap}
theorem Rel.lt (r : Rel h0 m T h) {i : Nat} {o : SO} (hi : T.get i = some o) : i < T.n := by
  obtain ⟨b, off, cap, ob, h1, _⟩ := r.live i o hi
  rw [← r.len]; exact (List.getElem?_eq_some_iff.1 h1).1
theorem Rel.start (h0 : Heap) : Rel h0 [] ⟨0, .nil⟩ h0 :=
  ⟨rfl, fun i o hi => (by cases hi), fun i j o o' b x y x' y' hi => (by cases hi), Nat.le_refl _, fun _ _ => rfl⟩
/-- a new block. -/
theorem Rel.new (r : Rel h0 m T h) {o : SO} {ob : Obj} {cap : Nat} (ho : ObjR m 0 cap o ob) : Rel h0 (m ++ [(h.size, 0, cap)]) (T.new o) (h.push ob) where
  len := by simp [r.len, SH.new]
  live i o' hi := by
    rcases SH.get_new hi with ⟨rfl, rfl⟩ | ⟨hne, hi⟩
    · refine ⟨h.size, 0, cap, ob, by rw [← r.len]; simp, fun _ => r.size, push_at _ _, ho.mono (Le.push _ _)⟩
    · obtain ⟨b, off, cap', ob', h1, h2, h3, h4⟩ := r.live i o' hi
      exact ⟨b, off, cap', ob', Le.push _ _ _ _ h1, h2, by rw [push_old _ _ (at_lt h3)]; exact h3, h4.mono (Le.push _ _)⟩
  inj i j o1 o2 b x y x' y' hi hj h1 h2 := by
    have back : ∀ {i : Nat} {b x y : Nat}, i < T.n → (m ++ [(h.size, 0, cap)])[i]? = some (b, x, y) → m[i]? = some (b, x, y) := fun hlt h1 => by
      rwa [List.getElem?_append_left (by rw [r.len]; exact hlt)] at h1
    have fresh : ∀ {i : Nat} {o : SO} {b x y : Nat}, T.get i = some o → m[i]? = some (b, x, y) → b ≠ h.size := fun hi h1 e => by
      obtain ⟨b', off, cap', ob', k1, k2, k3, k4⟩ := r.live _ _ hi
      rw [h1] at k1; cases k1
      have := at_lt k3
      omega
    have at_n : ∀ {b x y : Nat}, (m ++ [(h.size, 0, cap)])[T.n]? = some (b, x, y) → b = h.size := fun h1 => by
      rw [← r.len] at h1; simp at h1; exact h1.1.symm
    rcases SH.get_new hi with ⟨rfl, _⟩ | ⟨hne, hi⟩ <;> rcases SH.get_new hj with ⟨rfl, _⟩ | ⟨hne', hj⟩
    · rfl
    · exact absurd (at_n h1) (fresh hj (back (r.lt hj) h2))
    · exact absurd (at_n h2) (fresh hi (back (r.lt hi) h1))
    · exact r.inj i j _ _ b _ _ _ _ hi hj (back (r.lt hi) h1) (back (r.lt hj) h2)
  size := by simp; have := r.size; omega
  old k hk := by rw [push_old _ _ (Nat.lt_of_lt_of_le hk r.size)]; exact r.old k hk
/-- a block turns. -/
theorem Rel.put (r : Rel h0 m T h) {i : Nat} {o o' : SO} {b off cap : Nat} {h' : Heap} {ob : Obj} (hi : T.get i = some o) (hro : o.isRo = false) (hm : m[i]? = some (b, off, cap)) (ho : ObjR m off cap o' ob)
    (hs : h'.size = h.size) (hb : h'[b]? = some ob) (he : ∀ k, k ≠ b → h'[k]? = h[k]?) : Rel h0 m (T.put i o') h' where
  len := r.len
  live j o2 hj := by
    rcases SH.get_put hj with ⟨rfl, rfl⟩ | ⟨hne, hj⟩
    · obtain ⟨b', off', cap', ob', h1, h2, h3, h4⟩ := r.live i o hi
      rw [hm] at h1; cases h1
      exact ⟨b, off, cap, ob, hm, fun _ => h2 hro, hb, ho⟩
    · obtain ⟨b', off', cap', ob', h1, h2, h3, h4⟩ := r.live j o2 hj
      refine ⟨b', off', cap', ob', h1, h2, ?_, h4⟩
      rw [he b' fun e => hne (by subst e; exact r.inj i j _ _ _ _ _ _ _ hi hj hm h1)]; exact h3
  inj j k o1 o2 b' x y x' y' hj hk h1 h2 := by
    have get : ∀ {j : Nat} {o1 : SO}, (T.put i o').get j = some o1 → ∃ o2, T.get j = some o2 := fun hj => by
      rcases SH.get_put hj with ⟨rfl, _⟩ | ⟨_, hj⟩
      · exact ⟨o, hi⟩
      · exact ⟨_, hj⟩
    obtain ⟨_, hj⟩ := get hj
    obtain ⟨_, hk⟩ := get hk
    exact r.inj j k _ _ b' _ _ _ _ hj hk h1 h2
  size := by rw [hs]; exact r.size
  old k hk := by
    obtain ⟨b', off', cap', ob', h1, h2, h3, h4⟩ := r.live i o hi
    rw [hm] at h1; cases h1
    have := h2 hro
    rw [he k (by omega)]; exact r.old k hk
/-- a block turns, and bears another name from now on. -/
theorem Rel.turn (r : Rel h0 m T h) {i : Nat} {o o' : SO} {b x y off cap : Nat} {h' : Heap} {ob : Obj} (hi : T.get i = some o) (hro : o.isRo = false) (hm : m[i]? = some (b, x, y)) (ho : ObjR (m ++ [(b, off, cap)]) off cap o' ob)
    (hs : h'.size = h.size) (hb : h'[b]? = some ob) (he : ∀ k, k ≠ b → h'[k]? = h[k]?) : Rel h0 (m ++ [(b, off, cap)]) ((T.kill i).new o') h' := by
  obtain ⟨b1, o1, c1, ob1, g1, g2, g3, g4⟩ := r.live i o hi
  rw [hm] at g1; cases g1
  have g2 := g2 hro
  have at_n : ∀ {q u v : Nat}, (m ++ [(b, off, cap)])[T.n]? = some (q, u, v) → q = b := fun h1 => by
    rw [← r.len] at h1; simp at h1; exact h1.1.symm
  have back : ∀ {j q u v : Nat}, j < T.n → (m ++ [(b, off, cap)])[j]? = some (q, u, v) → m[j]? = some (q, u, v) := fun hlt h1 => by
    rwa [List.getElem?_append_left (by rw [r.len]; exact hlt)] at h1
  have lives : ∀ {j : Nat} {oj : SO}, ((T.kill i).new o').get j = some oj → (T.n = j ∧ o' = oj) ∨ (i ≠ j ∧ T.get j = some oj) := fun hj => by
    rcases SH.get_new hj with ⟨e, e'⟩ | ⟨hne, hj⟩
    · exact .inl ⟨e, e'⟩
    · exact .inr (SH.get_kill hj)
  refine ⟨by simp [r.len, SH.new, SH.kill], fun j oj hj => ?_, fun j j' oj oj' q u v u' v' hj hj' e1 e2 => ?_, by rw [hs]; exact r.size, fun q hq => by rw [he q (by omega)]; exact r.old q hq⟩
  · rcases lives hj with ⟨hTn, rfl⟩ | ⟨hij, hj⟩
    · exact ⟨b, off, cap, ob, by rw [← hTn, ← r.len]; simp, fun _ => g2, hb, ho⟩
    · obtain ⟨b2, o2, c2, ob2, k1, k2, k3, k4⟩ := r.live j _ hj
      refine ⟨b2, o2, c2, ob2, Le.push _ _ _ _ k1, k2, ?_, k4.mono (Le.push _ _)⟩
      rw [he b2 fun e => hij (by subst e; exact r.inj i j _ _ _ _ _ _ _ hi hj hm k1)]; exact k3
  · rcases lives hj with ⟨rfl, _⟩ | ⟨hij, hj⟩ <;> rcases lives hj' with ⟨rfl, _⟩ | ⟨hij', hj'⟩
    · rfl
    · have := at_n e1
      subst this
      exact absurd (r.inj i j' _ _ _ _ _ _ _ hi hj' hm (back (r.lt hj') e2)) hij'
    · have := at_n e2
      subst this
      exact absurd (r.inj i j _ _ _ _ _ _ _ hi hj hm (back (r.lt hj) e1)) hij
    · exact r.inj j j' _ _ q _ _ _ _ hj hj' (back (r.lt hj) e1) (back (r.lt hj') e2)
/-- a block turns, and bears no name any more. -/
theorem Rel.drop (r : Rel h0 m T h) {i : Nat} {o : SO} {b x y : Nat} {h' : Heap} (hi : T.get i = some o) (hro : o.isRo = false) (hm : m[i]? = some (b, x, y)) (hs : h'.size = h.size) (he : ∀ k, k ≠ b → h'[k]? = h[k]?) :
    Rel h0 m (T.kill i) h' := by
  obtain ⟨b1, o1, c1, ob1, g1, g2, g3, g4⟩ := r.live i o hi
  rw [hm] at g1; cases g1
  have g2 := g2 hro
  refine ⟨r.len, fun j oj hj => ?_, fun j j' oj oj' q u v u' v' hj hj' e1 e2 => r.inj j j' _ _ q _ _ _ _ (SH.get_kill hj).2 (SH.get_kill hj').2 e1 e2, by rw [hs]; exact r.size, fun q hq => by rw [he q (by omega)]; exact r.old q hq⟩
  obtain ⟨hij, hj⟩ := SH.get_kill hj
  obtain ⟨b2, o2, c2, ob2, k1, k2, k3, k4⟩ := r.live j _ hj
  refine ⟨b2, o2, c2, ob2, k1, k2, ?_, k4⟩
  rw [he b2 fun e => hij (by subst e; exact r.inj i j _ _ _ _ _ _ _ hi hj hm k1)]; exact k3
theorem Rel.kill (r : Rel h0 m T h) (i : Nat) : Rel h0 m (T.kill i) h where
  len := r.len
  live j o2 hj := r.live j o2 (SH.get_kill hj).2
  inj j k o1 o2 b' x y x' y' hj hk h1 h2 := r.inj j k _ _ b' _ _ _ _ (SH.get_kill hj).2 (SH.get_kill hk).2 h1 h2
  size := r.size
  old := r.old
end

/- ------------------------------------------------------------------ frames -/

structure EnvR (m : M) (n : Nat) (e : SE) (a : Act) : Prop where
  size : a.tmps.size = n
  look : ∀ t v, e.get t = some v → ∃ u, conc m v = some u ∧ a.tmps[t]? = some u
theorem EnvR.mono {m m' : M} (hm : Le m m') {n : Nat} {e : SE} {a : Act} (h : EnvR m n e a) : EnvR m' n e a :=
  ⟨h.size, fun t v hv => let ⟨u, h1, h2⟩ := h.look t v hv; ⟨u, conc_mono hm v h1, h2⟩⟩
theorem rho_sound {m : M} {n : Nat} {e : SE} {a : Act} (h : EnvR m n e a) {x : Operand} {v : SV} (hv : rhoS e x = some v) : conc m v = some (a.eval x) := by
  cases x with
  | tmp t =>
    obtain ⟨u, h1, h2⟩ := h.look t v hv
    rw [h1]; simp [Act.eval, h2]
  | const u => exact conc_ofC hv
  | global g => cases hv
  | func f => simp only [rhoS, Option.some.injEq] at hv; subst hv; simp [conc, concL, Act.eval]
theorem put_sound {m : M} {n : Nat} {e e' : SE} {a : Act} {d : Option Tmp} {v : SV} {u : Value} (h : EnvR m n e a) (hv : conc m v = some u) (hp : putE n e d v = some e') : EnvR m n e' (a.put d u) := by
  cases d with
  | none => simp only [putE, Option.some.injEq] at hp; subst hp; exact h
  | some d =>
    simp only [putE] at hp
    cases hb : Nat.blt d n with
    | false => simp [hb] at hp
    | true =>
      simp only [hb, Option.some.injEq] at hp
      subst hp
      have hd : d < a.tmps.size := by rw [h.size]; exact Nat.le_of_ble_eq_true hb
      refine ⟨by simpa [Act.put] using h.size, fun t w hw => ?_⟩
      rcases Tri.get_put _ _ _ _ _ _ hw with ⟨rfl, hx⟩ | ⟨hne, hx⟩
      · cases hx
        exact ⟨u, hv, by simp [Act.put, hd]⟩
      · obtain ⟨u', h1, h2⟩ := h.look t w hx
        exact ⟨u', h1, by simpa [Act.put, Array.getElem?_setIfInBounds_ne hne] using h2⟩
end Go.Ce
end

section
set_option linter.unusedVariables false
set_option linter.unusedSimpArgs false
namespace Go.Ce
open Go Go.Vc

section
variable {m : M}
theorem cv {u w : Value} (h : conc m (.v u) = some w) : w = u := by
  simp only [conc] at h
  cases ha : isAggV u <;> simp [ha] at h
  exact h.symm
theorem cv_of {u : Value} (h : isAggV u = false) : conc m (.v u) = some u := by simp only [conc, h]
theorem cstr {l : List Nat} {w : Value} (h : conc m (.str l) = some w) : lt256 l = true ∧ w = .string (bytesOf l) := by
  simp only [conc] at h
  cases ha : lt256 l <;> simp [ha] at h
  exact ⟨rfl, h.symm⟩
theorem cstr_of {l : List Nat} (h : lt256 l = true) : conc m (.str l) = some (.string (bytesOf l)) := by simp only [conc, h]
theorem cptr {i off : Nat} {w : Value} (h : conc m (.ptr i off) = some w) : ∃ b o c, m[i]? = some (b, o, c) ∧ w = .pointer (some ⟨b, o + off, none⟩) := by
  simp only [conc] at h
  cases hi : m[i]? with
  | none => simp [hi] at h
  | some x => obtain ⟨b, o, c⟩ := x; simp only [hi, Option.some.injEq] at h; exact ⟨b, o, c, rfl, h.symm⟩
theorem cptr_of {i off b o c : Nat} (h : m[i]? = some (b, o, c)) : conc m (.ptr i off) = some (.pointer (some ⟨b, o + off, none⟩)) := by simp only [conc, h]
theorem csl {i off n c : Nat} {w : Value} (h : conc m (.sl i off n c) = some w) : ∃ b o c', m[i]? = some (b, o, c') ∧ n ≤ c ∧ w = .slice (some ⟨b, o + off, none⟩) n c := by
  simp only [conc] at h
  cases hi : m[i]? with
  | none => simp [hi] at h
  | some x =>
    obtain ⟨b, o, c'⟩ := x
    simp only [hi] at h
    cases hb : Nat.ble n c with
    | false => simp [hb] at h
    | true => simp only [hb, Option.some.injEq] at h; exact ⟨b, o, c', rfl, Nat.le_of_ble_eq_true hb, h.symm⟩
theorem csl_of {i off n c b o c' : Nat} (h : m[i]? = some (b, o, c')) (hn : n ≤ c) : conc m (.sl i off n c) = some (.slice (some ⟨b, o + off, none⟩) n c) := by
  simp only [conc, h, Nat.ble_eq_true_of_le hn]
theorem cosl {i eo k n : Nat} {w : Value} (h : conc m (.osl i eo k n) = some w) : ∃ b o c, m[i]? = some (b, o, c) ∧ eo + n ≤ c ∧ w = .slice (some ⟨b, o + eo * k, none⟩) n (c - eo) := by
  simp only [conc] at h
  cases hi : m[i]? with
  | none => simp [hi] at h
  | some x =>
    obtain ⟨b, o, c⟩ := x
    simp only [hi] at h
    cases hb : Nat.ble (eo + n) c with
    | false => simp [hb] at h
    | true => simp only [hb, Option.some.injEq] at h; exact ⟨b, o, c, rfl, Nat.le_of_ble_eq_true hb, h.symm⟩
theorem cosl_of {i eo k n b o c : Nat} (h : m[i]? = some (b, o, c)) (hn : eo + n ≤ c) : conc m (.osl i eo k n) = some (.slice (some ⟨b, o + eo * k, none⟩) n (c - eo)) := by
  simp only [conc, h, Nat.ble_eq_true_of_le hn]
theorem cesl {i e0 e k : Nat} {w : Value} (h : conc m (.esl i e0 e k) = some w) : ∃ b o c, m[i]? = some (b, o, c) ∧ w = .slice (some ⟨b, o + (if c ≤ e then e0 else e) * k, none⟩) 0 (c - e) := by
  simp only [conc] at h
  cases hi : m[i]? with
  | none => simp [hi] at h
  | some x => obtain ⟨b, o, c⟩ := x; simp only [hi, Option.some.injEq] at h; exact ⟨b, o, c, rfl, h.symm⟩
theorem cmap {i : Nat} {w : Value} (h : conc m (.map i) = some w) : ∃ b o c, m[i]? = some (b, o, c) ∧ w = .map (some b) := by
  simp only [conc] at h
  cases hi : m[i]? with
  | none => simp [hi] at h
  | some x => obtain ⟨b, o, c⟩ := x; simp only [hi, Option.some.injEq] at h; exact ⟨b, o, c, rfl, h.symm⟩
theorem cfn {f : FuncId} {a b : List SV} {w : Value} (h : conc m (.fn f a b) = some w) : ∃ x y, concL m a = some x ∧ concL m b = some y ∧ w = .func (.func f) x.toArray y.toArray := by
  simp only [conc] at h
  cases ha : concL m a with
  | none => simp [ha] at h
  | some x => cases hb : concL m b with
    | none => simp [ha, hb] at h
    | some y => simp only [ha, hb, Option.some.injEq] at h; exact ⟨x, y, rfl, rfl, h.symm⟩
theorem cifc {t : TypeId} {x : SV} {w : Value} (h : conc m (.ifc t x) = some w) : ∃ u, conc m x = some u ∧ w = .iface t u := by
  simp only [conc] at h
  cases ha : conc m x with
  | none => simp [ha] at h
  | some u => simp only [ha, Option.some.injEq] at h; exact ⟨u, rfl, h.symm⟩
theorem cagg {l : List SV} {w : Value} (h : conc m (.agg l) = some w) : ∃ us, concL m l = some us ∧ w = .agg us.toArray := by
  simp only [conc] at h
  cases ha : concL m l with
  | none => simp [ha] at h
  | some u => simp only [ha, Option.some.injEq] at h; exact ⟨u, rfl, h.symm⟩
theorem cagg_of {l : List SV} {us : List Value} (h : concL m l = some us) : conc m (.agg l) = some (.agg us.toArray) := by simp only [conc, h]
theorem ctup {l : List SV} {w : Value} (h : conc m (.tup l) = some w) : ∃ us, concL m l = some us ∧ w = .tuple us.toArray := by
  simp only [conc] at h
  cases ha : concL m l with
  | none => simp [ha] at h
  | some u => simp only [ha, Option.some.injEq] at h; exact ⟨u, rfl, h.symm⟩
theorem ctup_of {l : List SV} {us : List Value} (h : concL m l = some us) : conc m (.tup l) = some (.tuple us.toArray) := by simp only [conc, h]

/- texts -/
theorem bytes_size (l : List Nat) : (bytesOf l).size = l.length := by simp [bytesOf, ByteArray.size]
theorem bytes_list (l : List Nat) : (bytesOf l).data.toList = l.map UInt8.ofNat := by simp [bytesOf]
theorem bytes_toList (l : List Nat) : (bytesOf l).toList = l.map UInt8.ofNat := by rw [ByteArray.toList_eq]; exact bytes_list l
theorem lt_get : ∀ {l : List Nat} {i b : Nat}, lt256 l = true → l[i]? = some b → b < 256
  | [], i, b, _, hi => by simp at hi
  | a :: l, 0, b, h, hi => by
    simp only [lt256, Bool.and_eq_true] at h
    simp only [List.getElem?_cons_zero, Option.some.injEq] at hi
    subst hi; exact Nat.le_of_ble_eq_true h.1
  | a :: l, i + 1, b, h, hi => by
    simp only [lt256, Bool.and_eq_true] at h
    simp only [List.getElem?_cons_succ] at hi
    exact lt_get h.2 hi
theorem lt_all {l : List Nat} : lt256 l = true ↔ ∀ b ∈ l, b < 256 := by
  induction l with
  | nil => simp [lt256]
  | cons a l ih =>
    simp only [lt256, Bool.and_eq_true, ih, List.mem_cons, forall_eq_or_imp]
    exact ⟨fun h => ⟨Nat.le_of_ble_eq_true h.1, h.2⟩, fun h => ⟨Nat.ble_eq_true_of_le h.1, h.2⟩⟩
theorem u8_inj {a b : Nat} (ha : a < 256) (hb : b < 256) : UInt8.ofNat a = UInt8.ofNat b ↔ a = b := by
  constructor
  · intro h
    have := congrArg UInt8.toNat h
    simpa [UInt8.toNat_ofNat, Nat.mod_eq_of_lt ha, Nat.mod_eq_of_lt hb] using this
  · rintro rfl; rfl
theorem u8_toNat {a : Nat} (ha : a < 256) : (UInt8.ofNat a).toNat = a := by simp [UInt8.toNat_ofNat, Nat.mod_eq_of_lt ha]
theorem eqN_iff : ∀ {a b : List Nat}, eqN a b = true ↔ a = b
  | [], [] => by simp [eqN]
  | [], _ :: _ => by simp [eqN]
  | _ :: _, [] => by simp [eqN]
  | a :: x, b :: y => by
    simp only [eqN, Bool.and_eq_true, List.cons.injEq, eqN_iff]
    exact ⟨fun h => ⟨Nat.eq_of_beq_eq_true h.1, h.2⟩, fun h => ⟨by rw [h.1]; exact Nat.beq_refl _, h.2⟩⟩
theorem map_inj : ∀ {a b : List Nat}, lt256 a = true → lt256 b = true → (a.map UInt8.ofNat = b.map UInt8.ofNat ↔ a = b)
  | [], [], _, _ => by simp
  | [], _ :: _, _, _ => by simp
  | _ :: _, [], _, _ => by simp
  | a :: x, b :: y, ha, hb => by
    simp only [lt256, Bool.and_eq_true] at ha hb
    simp only [List.map_cons, List.cons.injEq]
    rw [u8_inj (Nat.le_of_ble_eq_true ha.1) (Nat.le_of_ble_eq_true hb.1), map_inj ha.2 hb.2]
theorem eqN_bytes {a b : List Nat} (ha : lt256 a = true) (hb : lt256 b = true) : ((bytesOf a).toList == (bytesOf b).toList) = eqN a b := by
  rw [bytes_toList, bytes_toList]
  cases h : eqN a b with
  | true => rw [eqN_iff.1 h]; simp
  | false =>
    refine beq_eq_false_iff_ne.2 fun e => ?_
    rw [(eqN_iff).2 ((map_inj ha hb).1 e)] at h; cases h
theorem ltN_bytes : ∀ {a b : List Nat}, lt256 a = true → lt256 b = true → Op.bytesLess (a.map UInt8.ofNat) (b.map UInt8.ofNat) = ltN a b
  | [], [], _, _ => rfl
  | _ :: _, [], _, _ => rfl
  | [], _ :: _, _, _ => rfl
  | a :: x, b :: y, ha, hb => by
    simp only [lt256, Bool.and_eq_true] at ha hb
    have h1 := Nat.le_of_ble_eq_true ha.1
    have h2 := Nat.le_of_ble_eq_true hb.1
    simp only [List.map_cons, Op.bytesLess, ltN, ltN_bytes ha.2 hb.2]
    have e1 : (decide (UInt8.ofNat a < UInt8.ofNat b)) = Nat.blt a b := by
      have : (UInt8.ofNat a < UInt8.ofNat b) ↔ a < b := by rw [UInt8.lt_iff_toNat_lt, u8_toNat h1, u8_toNat h2]
      rw [decide_eq_decide.2 this]
      cases hb : Nat.blt a b with
      | true => exact decide_eq_true (Nat.le_of_ble_eq_true hb)
      | false => exact decide_eq_false fun h => by rw [show Nat.blt a b = true from Nat.ble_eq_true_of_le h] at hb; cases hb
    have e2 : (UInt8.ofNat a == UInt8.ofNat b) = Nat.beq a b := by
      cases hb : Nat.beq a b with
      | true => rw [Nat.eq_of_beq_eq_true hb]; simp
      | false => exact beq_eq_false_iff_ne.2 fun e => Nat.ne_of_beq_eq_false hb ((u8_inj h1 h2).1 e)
    rw [e1, e2]
theorem bytes_append (a b : List Nat) : bytesOf a ++ bytesOf b = bytesOf (a ++ b) := by
  apply ByteArray.ext
  simp [bytesOf, ByteArray.data_append]
theorem lt_append {a b : List Nat} (ha : lt256 a = true) (hb : lt256 b = true) : lt256 (a ++ b) = true := by
  rw [lt_all] at *
  intro x hx
  rcases List.mem_append.1 hx with h | h
  · exact ha x h
  · exact hb x h
theorem bytes_extract (l : List Nat) (i j : Nat) : (bytesOf l).extract i j = bytesOf ((l.take j).drop i) := by
  apply ByteArray.ext
  simp only [bytesOf, ByteArray.data_extract]
  apply Array.toList_inj.1
  rw [Array.toList_extract, List.extract_eq_take_drop]
  simp [List.map_drop, List.map_take, List.drop_take]
theorem lt_part {l : List Nat} (h : lt256 l = true) (i j : Nat) : lt256 ((l.take j).drop i) = true := by
  rw [lt_all] at *
  exact fun b hb => h b (List.mem_of_mem_take (List.mem_of_mem_drop hb))

/- parts -/
theorem int_sound {ρs : Operand → Option SV} {ρ : Operand → Value} (hρ : ∀ x s, ρs x = some s → conc m s = some (ρ x)) {x : Operand} {i : Int} (h : intS (ρs x) = some i) : ∃ k, ρ x = .int k i := by
  unfold intS at h
  split at h
  · rename_i k n hx
    cases h
    exact ⟨k, cv (hρ _ _ hx)⟩
  · cases h
theorem args_sound {ρs : Operand → Option SV} {ρ : Operand → Value} (hρ : ∀ x s, ρs x = some s → conc m s = some (ρ x)) : ∀ {l : List Operand} {vs : List SV}, argsS ρs l = some vs → concL m vs = some (l.map ρ)
  | [], vs, h => by simp only [argsS, Option.some.injEq] at h; subst h; exact concL_nil
  | x :: l, vs, h => by
    simp only [argsS] at h
    cases hx : ρs x with
    | none => simp [hx] at h
    | some v => cases hl : argsS ρs l with
      | none => simp [hx, hl] at h
      | some vs' =>
        simp only [hx, hl, Option.some.injEq] at h
        subst h
        exact concL_cons.2 ⟨_, _, hρ _ _ hx, args_sound hρ hl, rfl⟩
theorem part_sound {P : Program} {t : TypeId} {cs : List SV} {us : List Value} {off : Nat} {v : SV} (hc : concL m cs = some us) (h : partS P t cs off = some v) :
    ∃ u, conc m v = some u ∧ ∀ w, (part t us.toArray off).run P w = .ok u w := by
  unfold partS at h
  cases hs : szOf P t with
  | none => simp [hs] at h
  | some sz =>
    cases hu : P.underlying t with
    | none => simp [hs, hu] at h
    | some d =>
      simp only [hs, hu] at h
      cases ha : aggT P t with
      | true =>
        simp only [ha] at h
        cases hb : Nat.ble (off + sz) cs.length with
        | false => simp [hb] at h
        | true =>
          simp only [hb, Option.some.injEq] at h
          subst h
          obtain ⟨u, hu', rfl⟩ := partK_sound (P := P) (t := t) (cs := us.toArray) (off := off) (big := false) (c := true) (G := fun X => X) (K := fun u => u = .agg ((us.drop off).take sz).toArray) (fun X h _ => h) (by
            unfold partK; simp only [hs, ha, hu])
          exact ⟨_, cagg_of (concL_take (concL_drop hc)), hu' rfl⟩
      | false =>
        simp only [ha] at h
        obtain ⟨u, h1, h2⟩ := concL_get hc h
        obtain ⟨u', hu', rfl⟩ := partK_sound (P := P) (t := t) (cs := us.toArray) (off := off) (big := false) (c := true) (G := fun X => X) (K := fun w => w = u) (fun X h _ => h) (by
          unfold partK; simp only [hs, ha, hu, h2])
        exact ⟨_, h1, hu' rfl⟩
theorem ix_sound {i : Int} {n j : Nat} (h : ixOk i n = some j) : 0 ≤ i ∧ i < n ∧ i.toNat = j := by
  unfold ixOk at h
  cases hb : decide (0 ≤ i) && decide (i < n) with
  | false => simp [hb] at h
  | true =>
    simp only [hb, Option.some.injEq] at h
    simp only [Bool.and_eq_true, decide_eq_true_eq] at hb
    exact ⟨hb.1, hb.2, h⟩
theorem bnds_sound {n c : Nat} {lo hi mx : Option Int} {l h k : Nat} (hb : bnds n c lo hi mx = some (l, h, k)) :
    0 ≤ lo.getD 0 ∧ lo.getD 0 ≤ hi.getD n ∧ hi.getD n ≤ mx.getD c ∧ mx.getD c ≤ (c : Int) ∧ l = (lo.getD 0).toNat ∧ h = (hi.getD n).toNat ∧ k = (mx.getD c).toNat := by
  unfold bnds at hb
  simp only at hb
  cases hd : decide (0 ≤ lo.getD 0) && decide (lo.getD 0 ≤ hi.getD n) && decide (hi.getD n ≤ mx.getD c) && decide (mx.getD c ≤ (c : Int)) with
  | false => simp [hd] at hb
  | true =>
    simp only [hd, Option.some.injEq, Prod.mk.injEq] at hb
    simp only [Bool.and_eq_true, decide_eq_true_eq] at hd
    exact ⟨hd.1.1.1, hd.1.1.2, hd.1.2, hd.2, hb.1.symm, hb.2.1.symm, hb.2.2.symm⟩
theorem opt_sound {ρs : Operand → Option SV} {ρ : Operand → Value} (hρ : ∀ x s, ρs x = some s → conc m s = some (ρ x)) {x : Option Operand} {i : Option Int} (h : optI ρs x = some i) :
    (x = none ∧ i = none) ∨ ∃ y k j, x = some y ∧ i = some j ∧ ρ y = .int k j := by
  cases x with
  | none => simp only [optI, Option.some.injEq] at h; exact .inl ⟨rfl, h.symm⟩
  | some y =>
    simp only [optI] at h
    cases hi : intS (ρs y) with
    | none => simp [hi] at h
    | some j =>
      simp only [hi, Option.some.injEq] at h
      obtain ⟨k, hk⟩ := int_sound hρ hi
      exact .inr ⟨y, k, j, rfl, h.symm, hk⟩
theorem low_sound {ρs : Operand → Option SV} {ρ : Operand → Value} (hρ : ∀ x s, ρs x = some s → conc m s = some (ρ x)) {x : Option Operand} {i : Option Int} (h : optI ρs x = some i) : lowOf (x.map ρ) = some (i.getD 0) := by
  rcases opt_sound hρ h with ⟨rfl, rfl⟩ | ⟨y, k, j, rfl, rfl, hy⟩
  · rfl
  · simp [lowOf, hy]
theorem high_sound {ρs : Operand → Option SV} {ρ : Operand → Value} (hρ : ∀ x s, ρs x = some s → conc m s = some (ρ x)) {x : Option Operand} {i : Option Int} (h : optI ρs x = some i) (n : Nat) : highOf n (x.map ρ) = some (i.getD n) := by
  rcases opt_sound hρ h with ⟨rfl, rfl⟩ | ⟨y, k, j, rfl, rfl, hy⟩
  · rfl
  · simp [highOf, hy]
theorem some_sound {ρs : Operand → Option SV} {x : Option Operand} {i : Option Int} (h : optI ρs x = some i) (ρ : Operand → Value) : (x.map ρ).isSome = i.isSome ∧ (x.map ρ).isNone = i.isNone := by
  cases x with
  | none => simp only [optI, Option.some.injEq] at h; subst h; exact ⟨rfl, rfl⟩
  | some y =>
    simp only [optI] at h
    cases hi : intS (ρs y) with
    | none => simp [hi] at h
    | some j => simp only [hi, Option.some.injEq] at h; subst h; exact ⟨rfl, rfl⟩
end
end Go.Ce
end

section
set_option linter.unusedVariables false
set_option linter.unusedSimpArgs false
namespace Go.Ce
open Go Go.Vc

section
variable {m : M} {P : Program}
theorem pure_of {o : Oper} {ρ : Operand → Value} {u : Value} (h : pureK P o ρ (fun X => X) (fun v => v = u)) : PureAll P o ρ u := by
  obtain ⟨v, hv, rfl⟩ := pureK_sound (c := true) (fun _ h _ => h) h
  exact hv rfl
theorem bin_sound {op : BinOp} {x y v : SV} {a b : Value} (hx : conc m x = some a) (hy : conc m y = some b) (h : binS op x y = some v) :
    ∃ u, conc m v = some u ∧ binK op a b (fun X => X) (fun w => w = u) := by
  unfold binS at h
  split at h
  · rename_i k n k' n'
    cases cv hx; cases cv hy
    cases op <;> simp only at h
    case shl =>
      cases hd : decide (0 ≤ n') <;> simp [hd] at h
      subst h
      exact ⟨_, cv_of rfl, by simp only [binK]; exact ⟨of_decide_eq_true hd, trivial⟩⟩
    case shr =>
      cases hd : decide (0 ≤ n') <;> simp [hd] at h
      subst h
      exact ⟨_, cv_of rfl, by simp only [binK]; exact ⟨of_decide_eq_true hd, trivial⟩⟩
    all_goals
      cases hk : eqKind k k' <;> simp only [hk, binI, reduceCtorEq] at h
      first
        | (cases h; done)
        | (simp only [Option.some.injEq] at h
           subst h
           exact ⟨_, cv_of rfl, by simp only [binK, hk]⟩)
        | (cases hd : decide (n' = 0) <;> simp [hd] at h
           subst h
           exact ⟨_, cv_of rfl, by simp only [binK, hk]; exact ⟨of_decide_eq_false hd, trivial⟩⟩)
  · rename_i s t
    obtain ⟨h1, rfl⟩ := cstr hx
    obtain ⟨h2, rfl⟩ := cstr hy
    cases op <;> simp only [binT, reduceCtorEq] at h
    case add =>
      cases hl : lenOk (s.length + t.length) <;> simp [hl] at h
      subst h
      refine ⟨_, cstr_of (lt_append h1 h2), ?_⟩
      simp only [binK]
      refine ⟨?_, by rw [bytes_append]⟩
      have := Nat.le_of_ble_eq_true hl
      rw [bytes_size, bytes_size]
      show ((s.length + t.length : Nat) : Int) ≤ 9223372036854775807
      omega
    all_goals
      simp only [Option.some.injEq] at h
      subst h
      refine ⟨_, cv_of rfl, ?_⟩
      simp only [binK, eqN_bytes h1 h2]
      try rw [bytes_toList, bytes_toList, ltN_bytes h1 h2]
  · cases h
theorem len_sound {x : SV} {u : Value} {n : Nat} (hx : conc m x = some u) (h : lenR x = some n) : ∃ a c, u = .slice a n c := by
  unfold lenR at h
  split at h <;> try (cases h; done)
  · simp only [Option.some.injEq] at h; subst h
    obtain ⟨b, o, c, _, _, rfl⟩ := csl hx; exact ⟨_, _, rfl⟩
  · simp only [Option.some.injEq] at h; subst h
    obtain ⟨b, o, c, _, _, rfl⟩ := cosl hx; exact ⟨_, _, rfl⟩
  · simp only [Option.some.injEq] at h; subst h
    obtain ⟨b, o, c, _, rfl⟩ := cesl hx; exact ⟨_, _, rfl⟩
  · simp only [Option.some.injEq] at h; subst h
    cases cv hx; exact ⟨_, _, rfl⟩

theorem fill_sound {place : Nat → Option (Nat × Nat)} : ∀ {ps : List (Nat × SV)} {pv : List (Nat × Value)} {cells : List SV} {cs : List Value} {r : List SV},
    (ps.map (·.1) = pv.map (·.1) ∧ concL m (ps.map (·.2)) = some (pv.map (·.2))) → concL m cells = some cs → fillS place cells ps = some r → ∃ us, concL m r = some us ∧ fillL place cs pv = some us
  | [], pv, cells, cs, r, hp, hc, h => by
    obtain ⟨h1, h2⟩ := hp
    cases pv with
    | cons _ _ => simp at h1
    | nil => simp only [fillS, Option.some.injEq] at h; subst h; exact ⟨cs, hc, rfl⟩
  | (i, v) :: ps, pv, cells, cs, r, hp, hc, h => by
    obtain ⟨h1, h2⟩ := hp
    cases pv with
    | nil => simp at h1
    | cons x pv =>
      obtain ⟨j, u⟩ := x
      simp only [List.map_cons, List.cons.injEq] at h1
      obtain ⟨rfl, h1⟩ := h1
      obtain ⟨u', us', k1, k2, k3⟩ := concL_cons.1 h2
      simp only [List.map_cons, List.cons.injEq] at k3
      obtain ⟨rfl, rfl⟩ := k3
      simp only [fillS] at h
      simp only [fillL]
      cases hpl : place i with
      | none => simp [hpl] at h
      | some x =>
        obtain ⟨off, size⟩ := x
        simp only [hpl] at h ⊢
        have hcell := conc_cells k1
        have hlen : u.cells.toList.length = v.cells.length := concL_len hcell
        have hcl : cs.length = cells.length := concL_len hc
        rw [hlen, hcl]
        cases hb : Nat.beq v.cells.length size && Nat.ble (off + v.cells.length) cells.length with
        | false => simp [hb] at h
        | true =>
          simp only [hb] at h
          exact fill_sound ⟨h1, k2⟩ (concL_put hc hcell) h
theorem parts_sound {ρs : Operand → Option SV} {ρ : Operand → Value} (hρ : ∀ x s, ρs x = some s → conc m s = some (ρ x)) : ∀ {l : List (Nat × Operand)} {ps : List (Nat × SV)}, partsS ρs l = some ps →
    ps.map (·.1) = (partsL ρ l).map (·.1) ∧ concL m (ps.map (·.2)) = some ((partsL ρ l).map (·.2))
  | [], ps, h => by simp only [partsS, Option.some.injEq] at h; subst h; exact ⟨rfl, concL_nil⟩
  | (i, x) :: l, ps, h => by
    simp only [partsS] at h
    cases hx : ρs x with
    | none => simp [hx] at h
    | some v => cases hl : partsS ρs l with
      | none => simp [hx, hl] at h
      | some vs =>
        simp only [hx, hl, Option.some.injEq] at h
        subst h
        obtain ⟨h1, h2⟩ := parts_sound hρ hl
        exact ⟨by simp [partsL, h1], concL_cons.2 ⟨_, _, hρ _ _ hx, h2, rfl⟩⟩
theorem built_sound {t : TypeId} {ps : List (Nat × SV)} {pv : List (Nat × Value)} {r : List SV} (hp : ps.map (·.1) = pv.map (·.1) ∧ concL m (ps.map (·.2)) = some (pv.map (·.2))) (h : builtS P t ps = some r) :
    ∃ us, concL m r = some us ∧ builtL P t pv = some us := by
  unfold builtS at h
  cases hz : zcS P t with
  | none => simp [hz] at h
  | some z =>
    obtain ⟨zv, hz1, hz2⟩ := conc_zc (m := m) hz
    cases hu : P.underlying t with
    | none => simp [hz, hu] at h
    | some d =>
      cases d <;> simp only [hz, hu, reduceCtorEq] at h
      case struct fs =>
        cases hpl : placesOf P fs.toList with
        | none => simp [hpl] at h
        | some pl =>
          simp only [hpl] at h
          obtain ⟨us, h1, h2⟩ := fill_sound hp hz2 h
          exact ⟨us, h1, by unfold builtL; simp only [hz1, hu, hpl, h2]⟩
      case array n e =>
        cases hs : szOf P e with
        | none => simp [hs] at h
        | some sz =>
          simp only [hs] at h
          obtain ⟨us, h1, h2⟩ := fill_sound hp hz2 h
          exact ⟨us, h1, by unfold builtL; simp only [hz1, hu, hs, h2]⟩

/-- a row's part. -/
theorem row_part {t e : TypeId} {k : Nat} {x v : SV} {u : Value} {ρs : Operand → Option SV} {ρ : Operand → Value} (hρ : ∀ x s, ρs x = some s → conc m s = some (ρ x)) {lo hi mx : Option Operand} {lo' hi' mx' : Option Int}
    (hu : P.underlying t = some (.slice e)) (hk : szOf P e = some k) (hx : conc m x = some u) (hl : optI ρs lo = some lo') (hh : optI ρs hi = some hi') (hm : optI ρs mx = some mx')
    (hn : (mx'.isSome && hi'.isNone) = false) (h : sliceS k x lo' hi' mx' = some v) :
    ∃ w, conc m v = some w ∧ sliceK P t u (lo.map ρ) (hi.map ρ) (mx.map ρ) (fun X => X) (fun y => y = w) := by
  have hn' : ((mx.map ρ).isSome && (hi.map ρ).isNone) = false := by rw [(some_sound hm ρ).1, (some_sound hh ρ).2]; exact hn
  have hlo := low_sound hρ hl
  have hhi := high_sound hρ hh
  have hmx := high_sound hρ hm
  -- what is asked of a row
  have go : ∀ (a : Option Addr) (n c : Nat), 0 ≤ lo'.getD 0 → lo'.getD 0 ≤ hi'.getD n → hi'.getD n ≤ mx'.getD c → mx'.getD c ≤ (c : Int) →
      sliceK P t (.slice a n c) (lo.map ρ) (hi.map ρ) (mx.map ρ) (fun X => X) (fun y => y = .slice (subA a (lo'.getD 0).toNat (mx'.getD c).toNat k) ((hi'.getD n).toNat - (lo'.getD 0).toNat) ((mx'.getD c).toNat - (lo'.getD 0).toNat)) := by
    intro a n c b1 b2 b3 b4
    unfold sliceK
    rw [hn']
    simp only [hu, hk, hlo, hhi n, hmx c]
    rcases opt_sound hρ hl with ⟨rfl, rfl⟩ | ⟨y, kk, j, rfl, rfl, hy⟩
    · simp only [Option.map_none, Option.getD_none] at *
      refine ⟨⟨by omega, by omega, by omega⟩, ?_⟩
      have : subA a (0 : Int).toNat (mx'.getD c).toNat k = a := by
        unfold subA
        simp only [Int.toNat_zero, Nat.zero_mul]
        split
        · rfl
        · cases a <;> simp [Addr.add_zero]
      rw [this]; simp
    · simp only [Option.map_some]
      exact ⟨⟨b1, b2, b3, b4⟩, trivial⟩
  unfold sliceS at h
  split at h
  · rename_i i off len cap
    obtain ⟨b, o, c', hi, hle, rfl⟩ := csl hx
    cases hb : bnds len cap lo' hi' mx' with
    | none => simp [hb] at h
    | some r =>
      obtain ⟨l, h', mm⟩ := r
      simp only [hb, Option.some.injEq] at h
      subst h
      obtain ⟨b1, b2, b3, b4, rfl, rfl, rfl⟩ := bnds_sound hb
      refine ⟨_, csl_of hi (by omega), ?_⟩
      have := go (some ⟨b, o + off, none⟩) len cap b1 b2 b3 b4
      unfold subA at this
      cases hq : Nat.beq (mx'.getD cap).toNat (lo'.getD 0).toNat with
      | true => rw [if_pos (Nat.eq_of_beq_eq_true hq)] at this; exact this
      | false =>
        rw [if_neg (Nat.ne_of_beq_eq_false hq)] at this
        simp only [Option.map_some, Addr.add_row] at this
        simpa only [Nat.add_assoc] using this
  · rename_i i eo k' len
    cases hkk : Nat.beq k k' with
    | false => simp [hkk] at h
    | true =>
      have ek := Nat.eq_of_beq_eq_true hkk
      subst ek
      obtain ⟨b, o, c, hi, hle, rfl⟩ := cosl hx
      cases mx' with
      | some mm =>
        simp only [hkk] at h
        cases hb : bnds len len lo' hi' (some mm) with
        | none => simp [hb] at h
        | some r =>
          obtain ⟨l, h', m'⟩ := r
          simp only [hb, Option.some.injEq] at h
          subst h
          obtain ⟨b1, b2, b3, b4, e1, e2, e3⟩ := bnds_sound hb
          subst e1; subst e2; subst e3
          change _ ≤ mm at b3
          change mm ≤ _ at b4
          have hle2 : (hi'.getD (len : Int)).toNat - (lo'.getD 0).toNat ≤ ((some mm).getD (len : Int)).toNat - (lo'.getD 0).toNat := by show _ ≤ mm.toNat - _; omega
          refine ⟨_, csl_of hi hle2, ?_⟩
          have := go (some ⟨b, o + eo * k, none⟩) len (c - eo) b1 b2 b3 (by show mm ≤ _; omega)
          change sliceK P t _ _ _ _ _ (fun y => y = Value.slice (subA _ (lo'.getD 0).toNat mm.toNat k) _ (mm.toNat - _)) at this
          change sliceK P t _ _ _ _ _ (fun y => y = Value.slice (some ⟨b, o + (match Nat.beq mm.toNat (lo'.getD 0).toNat with | true => eo * k | false => (eo + (lo'.getD 0).toNat) * k), none⟩) _ (mm.toNat - _))
          unfold subA at this
          cases hq : Nat.beq mm.toNat (lo'.getD 0).toNat with
          | true => rw [if_pos (Nat.eq_of_beq_eq_true hq)] at this; exact this
          | false =>
            rw [if_neg (Nat.ne_of_beq_eq_false hq)] at this
            simp only [Option.map_some, Addr.add_row] at this
            simpa only [Nat.add_assoc, Nat.add_mul] using this
      | none =>
        simp only [hkk] at h
        cases hb : bnds len len lo' hi' none with
        | none => simp [hb] at h
        | some r =>
          obtain ⟨l, h', m'⟩ := r
          simp only [hb] at h
          obtain ⟨b1, b2, b3, b4, e1, e2, _⟩ := bnds_sound hb
          subst e1; subst e2
          change _ ≤ (len : Int) at b3
          have := go (some ⟨b, o + eo * k, none⟩) len (c - eo) b1 b2 (by show _ ≤ ((c - eo : Nat) : Int); omega) (Int.le_refl _)
          change sliceK P t _ _ _ _ _ (fun y => y = Value.slice (subA _ (lo'.getD 0).toNat (c - eo) k) _ ((c - eo) - _)) at this
          unfold subA at this
          cases hq : Nat.blt (lo'.getD 0).toNat len || Nat.beq (lo'.getD 0).toNat 0 with
          | true =>
            simp only [hq, Option.some.injEq] at h
            subst h
            refine ⟨_, cosl_of hi (by omega), ?_⟩
            have e : c - (eo + (lo'.getD 0).toNat) = c - eo - (lo'.getD 0).toNat := by omega
            rw [e]
            by_cases hz : c - eo = (lo'.getD 0).toNat
            · rw [if_pos hz] at this
              have hz0 : (lo'.getD 0).toNat = 0 := by
                simp only [Bool.or_eq_true] at hq
                rcases hq with hq | hq
                · have : (lo'.getD 0).toNat < len := Nat.le_of_ble_eq_true hq
                  omega
                · exact Nat.eq_of_beq_eq_true hq
              rw [hz0] at this ⊢
              simpa using this
            · rw [if_neg hz] at this
              simp only [Option.map_some, Addr.add_row] at this
              simpa only [Nat.add_assoc, Nat.add_mul] using this
          | false =>
            simp only [hq, Option.some.injEq] at h
            subst h
            simp only [Bool.or_eq_false_iff] at hq
            have hnl : ¬ (lo'.getD 0).toNat < len := fun hlt => by rw [show Nat.blt (lo'.getD 0).toNat len = true from Nat.ble_eq_true_of_le hlt] at hq; cases hq.1
            have hzero : (hi'.getD (len : Int)).toNat - (lo'.getD 0).toNat = 0 := by omega
            rw [hzero] at this
            have e : c - (eo + (lo'.getD 0).toNat) = c - eo - (lo'.getD 0).toNat := by omega
            refine ⟨.slice (some ⟨b, o + (if c ≤ eo + (lo'.getD 0).toNat then eo else eo + (lo'.getD 0).toNat) * k, none⟩) 0 (c - (eo + (lo'.getD 0).toNat)), by simp only [conc, hi], ?_⟩
            rw [e]
            by_cases hz : c - eo = (lo'.getD 0).toNat
            · rw [if_pos hz] at this
              rw [if_pos (by omega)]; exact this
            · rw [if_neg hz] at this
              rw [if_neg (by omega)]
              simp only [Option.map_some, Addr.add_row] at this
              simpa only [Nat.add_assoc, Nat.add_mul] using this
  · rename_i i e0 ee k'
    cases hkk : Nat.beq k k' with
    | false => simp [hkk] at h
    | true =>
      have ek := Nat.eq_of_beq_eq_true hkk
      subst ek
      obtain ⟨b, o, c, hi, rfl⟩ := cesl hx
      cases mx' with
      | some mm => simp [hkk] at h
      | none =>
        cases hb : bnds 0 0 lo' hi' none with
        | none => simp [hkk, hb] at h
        | some r =>
          obtain ⟨l, h', m'⟩ := r
          simp only [hkk, hb, Option.some.injEq] at h
          subst h
          obtain ⟨b1, b2, b3, b4, _, _, _⟩ := bnds_sound hb
          change _ ≤ (0 : Int) at b3
          have e1 : lo'.getD 0 = 0 := by omega
          have e2 : hi'.getD ((0 : Nat) : Int) = 0 := by omega
          refine ⟨.slice (some ⟨b, o + (if c ≤ ee then e0 else ee) * k, none⟩) 0 (c - ee), by simp only [conc, hi], ?_⟩
          have := go (some ⟨b, o + (if c ≤ ee then e0 else ee) * k, none⟩) 0 (c - ee) b1 b2 (by show _ ≤ ((c - ee : Nat) : Int); omega) (Int.le_refl _)
          change sliceK P t _ _ _ _ _ (fun y => y = Value.slice (subA _ (lo'.getD 0).toNat (c - ee) k) _ ((c - ee) - _)) at this
          rw [e1, e2] at this
          simp only [Int.toNat_zero, Nat.sub_zero] at this
          have ea : ∀ (a : Addr) (c : Nat), subA (some a) 0 c k = some a := fun a c => by unfold subA; split <;> simp [Addr.add_zero]
          rw [ea] at this
          exact this
  · cases cv hx
    cases hb : bnds 0 0 lo' hi' mx' with
    | none => simp [hb] at h
    | some r =>
      simp only [hb, Option.some.injEq] at h
      subst h
      obtain ⟨b1, b2, b3, b4, _, _, _⟩ := bnds_sound (l := r.1) (h := r.2.1) (k := r.2.2) hb
      refine ⟨_, cv_of rfl, ?_⟩
      have := go none 0 0 b1 b2 b3 b4
      have e1 : lo'.getD 0 = 0 := by omega
      have e2 : hi'.getD ((0 : Nat) : Int) = 0 := by omega
      have e3 : mx'.getD ((0 : Nat) : Int) = 0 := by omega
      rw [e1, e2, e3] at this
      simpa [subA] using this
  · cases h

/-- EACH OPERATION THAT TOUCHES NO MEMORY. -/
theorem pe_sound {o : Oper} {ρs : Operand → Option SV} {ρ : Operand → Value} {v : SV} (hρ : ∀ x s, ρs x = some s → conc m s = some (ρ x)) (h : peV P o ρs = some v) :
    ∃ u, conc m v = some u ∧ PureAll P o ρ u := by
  obtain ⟨dst, op, ty, pos, after, guard⟩ := o
  cases op <;> simp only [peV, reduceCtorEq] at h
  case move x => exact ⟨_, hρ _ _ h, fun w => by simp [execOp]⟩
  case assign x => exact ⟨_, hρ _ _ h, fun w => by simp [execOp]⟩
  case pick c a b =>
    split at h
    · rename_i hc
      exact ⟨_, hρ _ _ h, fun w => by simp [execOp, cv (hρ _ _ hc), asBool]⟩
    · rename_i hc
      exact ⟨_, hρ _ _ h, fun w => by simp [execOp, cv (hρ _ _ hc), asBool]⟩
    · cases h
  case nilCheck x =>
    split at h <;> try (cases h; done)
    all_goals
      rename_i hx
      simp only [Option.some.injEq] at h
      subst h
      have hc := hρ _ _ hx
      refine ⟨_, hc, fun w => ?_⟩
    · obtain ⟨b, o, c, _, e⟩ := cptr hc; simp [execOp, e]
    · obtain ⟨u, _, e⟩ := cifc hc; simp [execOp, e]
    · obtain ⟨a, b, _, _, e⟩ := cfn hc; simp [execOp, e]
    · simp [execOp, cv hc]
  case binOp op t x y yt =>
    cases hx : ρs x with
    | none => simp [hx] at h
    | some a => cases hy : ρs y with
      | none => simp [hx, hy] at h
      | some b =>
        simp only [hx, hy] at h
        obtain ⟨u, h1, h2⟩ := bin_sound (hρ _ _ hx) (hρ _ _ hy) h
        exact ⟨u, h1, pure_of (by simpa only [pureK] using h2)⟩
  case unOp op t x =>
    cases op <;> (try simp only at h) <;> (try (cases h; done)) <;> split at h <;> try (cases h; done)
    all_goals
      rename_i hx
      simp only [Option.some.injEq] at h
      subst h
      first
        | (refine ⟨_, cv_of rfl, pure_of ?_⟩
           simp only [pureK, cv (hρ _ _ hx)]
           done)
        | (refine ⟨_, cv_of rfl, pure_of ?_⟩
           simp only [pureK, cv (hρ _ _ hx)]
           rfl)
        | (exfalso; simp_all; done)
  case convert s d x =>
    split at h <;> try (cases h; done)
    · rename_i hs hd hx
      simp only [Option.some.injEq] at h
      subst h
      exact ⟨_, cv_of rfl, pure_of (by simp only [pureK, hs, hd, cv (hρ _ _ hx)])⟩
    · rename_i hs hd hx
      simp only [Option.some.injEq] at h
      subst h
      obtain ⟨h1, h2⟩ := cstr (hρ _ _ hx)
      exact ⟨_, cstr_of h1, pure_of (by simp only [pureK, hs, hd, h2])⟩
  case makeInterface t x =>
    split at h <;> try (cases h; done)
    rename_i d v' hni ht hx
    simp only [Option.some.injEq] at h
    subst h
    refine ⟨.iface t (ρ x), by simp only [conc, hρ _ _ hx], pure_of ?_⟩
    simp only [pureK, ht]
  case makeFunc fn first captured =>
    split at h <;> try (cases h; done)
    rename_i f a b ha hb
    simp only [Option.some.injEq] at h
    subst h
    refine ⟨.func (.func f) (mapA ρ first) (mapA ρ captured), ?_, pure_of (by simp only [pureK])⟩
    simp only [conc, args_sound hρ ha, args_sound hρ hb, mapA]
  case fieldAddr s x f =>
    split at h <;> try (cases h; done)
    rename_i fs i off hs hx
    cases hf : fs[f]? with
    | none => simp [hf] at h
    | some fd =>
      simp only [hf] at h
      split at h <;> try (cases h; done)
      rename_i sz hz
      simp only [Option.some.injEq] at h
      subst h
      obtain ⟨b, o, c, hi, e⟩ := cptr (hρ _ _ hx)
      refine ⟨_, cptr_of hi, pure_of ?_⟩
      simp only [pureK, hs, e, hf, hz, Addr.add_row, Nat.add_assoc]
  case indexAddr t x ix =>
    split at h <;> try (cases h; done)
    · rename_i e b o n c i ht hx hi
      cases hz : szOf P e with
      | none => simp [hz] at h
      | some sz => cases hj : ixOk i n with
        | none => simp [hz, hj] at h
        | some j =>
          simp only [hz, hj, Option.some.injEq] at h
          subst h
          obtain ⟨kk, ek⟩ := int_sound hρ hi
          obtain ⟨b', o', c', hm, hn, e'⟩ := csl (hρ _ _ hx)
          obtain ⟨i0, i1, rfl⟩ := ix_sound hj
          refine ⟨_, cptr_of hm, pure_of ?_⟩
          simp only [pureK, ht, e', ek, hz]
          exact ⟨_, ⟨rfl, i0, i1⟩, by simp only [Addr.add_row, Nat.add_assoc]⟩
    · rename_i e b eo k n i ht hx hi
      cases hz : szOf P e with
      | none => simp [hz] at h
      | some sz => cases hj : ixOk i n with
        | none => simp [hz, hj] at h
        | some j =>
          simp only [hz, hj] at h
          cases hk : Nat.beq sz k with
          | false => simp [hk] at h
          | true =>
            have := Nat.eq_of_beq_eq_true hk
            subst this
            simp only [hk, Option.some.injEq] at h
            subst h
            obtain ⟨kk, ek⟩ := int_sound hρ hi
            obtain ⟨b', o', c', hm, hn, e'⟩ := cosl (hρ _ _ hx)
            obtain ⟨i0, i1, rfl⟩ := ix_sound hj
            refine ⟨_, cptr_of hm, pure_of ?_⟩
            simp only [pureK, ht, e', ek, hz]
            exact ⟨_, ⟨rfl, i0, i1⟩, by simp only [Addr.add_row, Nat.add_assoc]⟩
    · rename_i n e b o i ht hx hi
      cases hz : szOf P e with
      | none => simp [hz] at h
      | some sz => cases hj : ixOk i n with
        | none => simp [hz, hj] at h
        | some j =>
          simp only [hz, hj, Option.some.injEq] at h
          subst h
          obtain ⟨kk, ek⟩ := int_sound hρ hi
          obtain ⟨b', o', c', hm, e'⟩ := cptr (hρ _ _ hx)
          obtain ⟨i0, i1, rfl⟩ := ix_sound hj
          refine ⟨_, cptr_of hm, pure_of ?_⟩
          simp only [pureK, ht, e', ek, hz]
          exact ⟨⟨i0, i1⟩, by simp only [Addr.add_row, Nat.add_assoc]⟩
  case index t x ix =>
    split at h <;> try (cases h; done)
    · rename_i l i ht hx hi
      cases hj : ixOk i l.length with
      | none => simp [hj] at h
      | some j =>
        simp only [hj] at h
        cases hb : l[j]? with
        | none => simp [hb] at h
        | some b =>
          simp only [hb, Option.some.injEq] at h
          subst h
          obtain ⟨kk, ek⟩ := int_sound hρ hi
          obtain ⟨h1, e'⟩ := cstr (hρ _ _ hx)
          obtain ⟨i0, i1, rfl⟩ := ix_sound hj
          refine ⟨_, cv_of rfl, pure_of ?_⟩
          simp only [pureK, ht, e', ek]
          refine ⟨⟨i0, by rw [bytes_size]; exact i1⟩, ?_⟩
          have hlt := lt_get h1 hb
          have : byteAt (bytesOf l) i = (b : Int) := by
            unfold byteAt bytesOf
            have : (((l.map UInt8.ofNat).toArray).getD i.toNat 0) = UInt8.ofNat b := by
              simp [Array.getD_eq_getD_getElem?, hb]
            rw [this, u8_toNat hlt]
          rw [this]
    · rename_i n e cs i ht hx hi
      cases hz : szOf P e with
      | none => simp [hz] at h
      | some sz => cases hj : ixOk i n with
        | none => simp [hz, hj] at h
        | some j =>
          simp only [hz, hj] at h
          obtain ⟨kk, ek⟩ := int_sound hρ hi
          obtain ⟨us, hus, e'⟩ := cagg (hρ _ _ hx)
          obtain ⟨i0, i1, rfl⟩ := ix_sound hj
          obtain ⟨u, h1, h2⟩ := part_sound hus h
          refine ⟨u, h1, fun w => ?_⟩
          simp [execOp, Instr.index, e', ek, asIntOf, run_underlying ht, i0, i1, run_szOf hz, h2]
  case slice t x lo hi mx =>
    split at h <;> try (cases h; done)
    · rename_i s lo' hi' ht hx hlo hhi hmx
      cases hb : bnds s.length s.length lo' hi' none with
      | none => simp [hb] at h
      | some r =>
        obtain ⟨l, h', mm⟩ := r
        simp only [hb, Option.some.injEq] at h
        subst h
        obtain ⟨b1, b2, b3, b4, rfl, rfl, rfl⟩ := bnds_sound hb
        obtain ⟨h1, e'⟩ := cstr (hρ _ _ hx)
        refine ⟨_, cstr_of (lt_part h1 _ _), pure_of ?_⟩
        have emx : mx.map ρ = none := by
          rcases opt_sound hρ hmx with ⟨rfl, _⟩ | ⟨_, _, _, _, e, _⟩
          · rfl
          · cases e
        simp only [pureK, sliceK, ht, e', emx, Option.isSome_none, Bool.false_and, low_sound hρ hlo, bytes_size, high_sound hρ hhi s.length]
        exact ⟨⟨b1, b2, by simpa using b3⟩, by rw [bytes_extract]⟩
    · rename_i e x' lo' hi' mx' ht hx hlo hhi hmx
      cases hz : szOf P e with
      | none => simp [hz] at h
      | some k => cases hn : mx'.isSome && hi'.isNone with
        | true => simp [hz, hn] at h
        | false =>
          simp only [hz, hn] at h
          obtain ⟨w, h1, h2⟩ := row_part hρ ht hz (hρ _ _ hx) hlo hhi hmx hn h
          exact ⟨w, h1, pure_of (by simpa only [pureK] using h2)⟩
    · rename_i n e i off lo' hi' mx' ht hx hlo hhi hmx
      cases hz : szOf P e with
      | none => simp [hz] at h
      | some k => cases hn : mx'.isSome && hi'.isNone with
        | true => simp [hz, hn] at h
        | false => cases hb : bnds n n lo' hi' mx' with
          | none => simp [hz, hn, hb] at h
          | some r =>
            obtain ⟨l, h', mm⟩ := r
            simp only [hz, hn, hb, Option.some.injEq] at h
            subst h
            obtain ⟨b1, b2, b3, b4, rfl, rfl, rfl⟩ := bnds_sound hb
            obtain ⟨b, o, c, hm, e'⟩ := cptr (hρ _ _ hx)
            have hn' : ((mx.map ρ).isSome && (hi.map ρ).isNone) = false := by rw [(some_sound hmx ρ).1, (some_sound hhi ρ).2]; exact hn
            refine ⟨_, csl_of hm (by omega), pure_of ?_⟩
            simp only [pureK, sliceK, hn', ht, e', hz, low_sound hρ hlo, high_sound hρ hhi n, high_sound hρ hmx n]
            refine ⟨⟨b1, b2, b3, b4⟩, ?_⟩
            unfold subA
            cases hq : Nat.beq (mx'.getD (n : Int)).toNat (lo'.getD 0).toNat with
            | true => rw [if_pos (Nat.eq_of_beq_eq_true hq)]
            | false => rw [if_neg (Nat.ne_of_beq_eq_false hq)]; simp only [Option.map_some, Addr.add_row, Nat.add_assoc]
  case field t x f =>
    split at h <;> try (cases h; done)
    rename_i fs cs ht hx
    cases hf : fs[f]? with
    | none => simp [hf] at h
    | some fd =>
      simp only [hf] at h
      obtain ⟨us, hus, e'⟩ := cagg (hρ _ _ hx)
      obtain ⟨u, h1, h2⟩ := part_sound hus h
      exact ⟨u, h1, fun w => by simp [execOp, Instr.field, run_underlying ht, hf, e', asAgg, h2]⟩
  case extract x i =>
    split at h <;> try (cases h; done)
    rename_i vs hx
    obtain ⟨us, hus, e'⟩ := ctup (hρ _ _ hx)
    obtain ⟨u, h1, h2⟩ := concL_get hus h
    refine ⟨u, h1, pure_of ?_⟩
    simp only [pureK, e']
    simp [h2]
  case build t parts =>
    cases hp : partsS ρs parts.toList with
    | none => simp [hp] at h
    | some ps =>
      simp only [hp] at h
      cases hb : builtS P t ps with
      | none => simp [hb] at h
      | some cs =>
        simp only [hb, Option.some.injEq] at h
        subst h
        obtain ⟨us, h1, h2⟩ := built_sound (parts_sound hρ hp) hb
        refine ⟨_, cagg_of h1, pure_of ?_⟩
        simp only [pureK]
        cases hbig : bigT P t with
        | true => exact ⟨us.toArray, ⟨builtL_eq h2⟩, rfl⟩
        | false => simp only [h2]
  case call cl =>
    obtain ⟨callee, args, argTypes⟩ := cl
    cases callee <;> try (cases h; done)
    case builtin b =>
      cases b <;> simp only [reduceCtorEq] at h
      case len =>
        split at h <;> try (cases h; done)
        · rename_i l ht hx
          simp only [Option.some.injEq] at h
          subst h
          cases ha : args[0]? with
          | none => simp [ha] at hx
          | some x =>
            simp only [ha, Option.bind_some] at hx
            obtain ⟨h1, e'⟩ := cstr (hρ _ _ hx)
            exact ⟨_, cv_of rfl, pure_of (by simp only [pureK, ht, ha, Option.map_some, e', bytes_size])⟩
        · rename_i e x' ht hx
          cases hl : lenR x' with
          | none => simp [hl] at h
          | some n =>
            simp only [hl, Option.some.injEq] at h
            subst h
            cases ha : args[0]? with
            | none => simp [ha] at hx
            | some x =>
              simp only [ha, Option.bind_some] at hx
              obtain ⟨a, c, e'⟩ := len_sound (hρ _ _ hx) hl
              exact ⟨_, cv_of rfl, pure_of (by simp only [pureK, ht, ha, Option.map_some, e'])⟩
        · rename_i n e x' ht hx
          simp only [Option.some.injEq] at h
          subst h
          cases ha : args[0]? with
          | none => simp [ha] at hx
          | some x => exact ⟨_, cv_of rfl, pure_of (by simp only [pureK, ht, ha, Option.map_some])⟩
      case cap =>
        split at h <;> try (cases h; done)
        · rename_i e i o n c ht hx
          simp only [Option.some.injEq] at h
          subst h
          cases ha : args[0]? with
          | none => simp [ha] at hx
          | some x =>
            simp only [ha, Option.bind_some] at hx
            obtain ⟨b, o', c', _, _, e'⟩ := csl (hρ _ _ hx)
            exact ⟨_, cv_of rfl, pure_of (by simp only [pureK, ht, ha, Option.map_some, e'])⟩
        · rename_i e a n c ht hx
          simp only [Option.some.injEq] at h
          subst h
          cases ha : args[0]? with
          | none => simp [ha] at hx
          | some x =>
            simp only [ha, Option.bind_some] at hx
            exact ⟨_, cv_of rfl, pure_of (by simp only [pureK, ht, ha, Option.map_some, cv (hρ _ _ hx)])⟩
end
end Go.Ce
end

section
set_option linter.unusedVariables false
set_option linter.unusedSimpArgs false
namespace Go.Ce
open Go Go.Vc

section
variable {m : M} {P : Program} {h0 : Heap} {T : SH} {h : Heap}
/-- cells of a block. -/
theorem cells_sound (r : Rel h0 m T h) {i off n : Nat} {cs : List SV} (hc : cellsAt T i off n = some cs) :
    ∃ b o c us, m[i]? = some (b, o, c) ∧ concL m cs = some us ∧ us.length = n ∧ ∀ j u, us[j]? = some u → cell h ⟨b, o + off + j, none⟩ = some u := by
  unfold cellsAt at hc
  split at hc
  · rename_i vs ty hg
    cases hb : Nat.ble (off + n) vs.length with
    | false => simp [hb] at hc
    | true =>
      simp only [hb, Option.some.injEq] at hc
      subst hc
      have hlen := Nat.le_of_ble_eq_true hb
      obtain ⟨b, o, c, ob, h1, h2, h3, h4⟩ := r.live i _ hg
      obtain ⟨rfl, us, h5, rfl⟩ := h4
      refine ⟨b, 0, c, (us.drop off).take n, h1, concL_take (concL_drop h5), by simp [concL_len h5]; omega, fun j u hj => ?_⟩
      rw [cell_at h3]
      rw [List.getElem?_take] at hj
      split at hj
      · rw [List.getElem?_drop] at hj
        simpa using hj
      · cases hj
  · rename_i vs ty k z hg
    cases hb : Nat.ble (off + n) vs.length with
    | false => simp [hb] at hc
    | true =>
      simp only [hb, Option.some.injEq] at hc
      subst hc
      have hlen := Nat.le_of_ble_eq_true hb
      obtain ⟨b, o, c, ob, h1, h2, h3, h4⟩ := r.live i _ hg
      obtain ⟨_, us, pre, tail, h5, rfl, h6, h7⟩ := h4
      refine ⟨b, o, c, (us.drop off).take n, h1, concL_take (concL_drop h5), by simp [concL_len h5]; omega, fun j u hj => ?_⟩
      rw [cell_at h3]
      rw [List.getElem?_take] at hj
      split at hj
      · rename_i hjn
        rw [List.getElem?_drop] at hj
        have hul := concL_len h5
        have : (pre ++ (us ++ tail))[o + off + j]? = some u := by
          rw [List.getElem?_append_right (by omega), List.getElem?_append_left (by omega)]
          rw [show o + off + j - pre.length = off + j by omega]; exact hj
        simpa using this
      · cases hj
  · rename_i vs hg
    cases hb : Nat.ble (off + n) vs.length with
    | false => simp [hb] at hc
    | true =>
      simp only [hb, Option.some.injEq] at hc
      subst hc
      have hlen := Nat.le_of_ble_eq_true hb
      obtain ⟨b, o, c, ob, h1, h2, h3, h4⟩ := r.live i _ hg
      obtain ⟨rfl, us, tail, ty, fr, h5, rfl⟩ := h4
      refine ⟨b, 0, c, (us.drop off).take n, h1, concL_take (concL_drop h5), by simp [concL_len h5]; omega, fun j u hj => ?_⟩
      rw [cell_at h3]
      rw [List.getElem?_take] at hj
      split at hj
      · rename_i hjn
        rw [List.getElem?_drop] at hj
        have hul := concL_len h5
        have : (us ++ tail)[0 + off + j]? = some u := by
          rw [List.getElem?_append_left (by omega), Nat.zero_add]; exact hj
        simpa using this
      · cases hj
  · cases hc
theorem scT_of {t : TypeId} {d : TypeDesc} (hu : P.underlying t = some d) (ha : aggT P t = false) : scT P t = true := by
  unfold aggT at ha; unfold scT
  rw [hu] at ha ⊢
  cases d <;> first | rfl | cases ha
theorem agT_of {t : TypeId} {n : Nat} (hs : szOf P t = some n) (ha : aggT P t = true) : agT P t n = true := by
  unfold agT
  rw [ha, hs]
  exact Nat.beq_refl n
theorem load_sound (r : Rel h0 m T h) {t : TypeId} {x v : SV} {u : Value} (hx : conc m x = some u) (hl : loadS P T t x = some v) : ∃ w, conc m v = some w ∧ Reads P (Instr.loadAt t u) h w := by
  unfold loadS at hl
  split at hl <;> try (cases hl; done)
  rename_i i off sz d hs hu
  obtain ⟨b, o, c, hi, rfl⟩ := cptr hx
  cases hc : cellsAt T i off sz with
  | none => simp [hc] at hl
  | some cs =>
    simp only [hc] at hl
    obtain ⟨b', o', c', us, h1, h2, h3, h4⟩ := cells_sound r hc
    rw [hi] at h1; cases h1
    cases ha : aggT P t with
    | true =>
      simp only [ha, Option.some.injEq] at hl
      subst hl
      refine ⟨_, cagg_of h2, reads_load_agg (agT_of hs ha) h3 fun j u hj => ?_⟩
      rw [Addr.add_row]; exact h4 j u hj
    | false =>
      simp only [ha] at hl
      split at hl
      · rename_i v'
        cases hl
        obtain ⟨u, us', k1, k2, rfl⟩ := concL_cons.1 h2
        refine ⟨u, k1, reads_load (scT_of hu ha) ?_⟩
        have := h4 0 u rfl
        simpa using this
      · cases hl
/-- a row's cells. -/
theorem row_sound (r : Rel h0 m T h) {k : Nat} {x : SV} {cs : List SV} {u : Value} (hx : conc m x = some u) (hr : rowS T k x = some cs) :
    ∃ a n c us, u = .slice a n c ∧ n ≤ c ∧ concL m cs = some us ∧ us.length = n * k ∧ (n ≠ 0 → ∃ p, a = some p ∧ p.spot = none ∧ ∀ j v, us[j]? = some v → cell h (p.add j) = some v) ∧ lenR x = some n := by
  unfold rowS at hr
  split at hr
  · rename_i i off n c
    obtain ⟨b, o, c', hi, hle, rfl⟩ := csl hx
    cases hn : Nat.beq n 0 with
    | true =>
      simp only [hn, Option.some.injEq] at hr
      subst hr
      have := Nat.eq_of_beq_eq_true hn
      subst this
      exact ⟨_, _, _, [], rfl, hle, concL_nil, by simp, fun hne => absurd rfl hne, rfl⟩
    | false =>
      simp only [hn] at hr
      obtain ⟨b', o', c2, us, h1, h2, h3, h4⟩ := cells_sound r hr
      rw [hi] at h1; cases h1
      exact ⟨_, _, _, us, rfl, hle, h2, h3, fun _ => ⟨_, rfl, rfl, fun j v hj => by rw [Addr.add_row]; exact h4 j v hj⟩, rfl⟩
  · rename_i i eoff k' n
    cases hk : Nat.beq k k' with
    | false => simp [hk] at hr
    | true =>
      have := Nat.eq_of_beq_eq_true hk
      subst this
      simp only [hk] at hr
      obtain ⟨b, o, c', hi, hle, rfl⟩ := cosl hx
      cases hn : Nat.beq n 0 with
      | true =>
        simp only [hn, Option.some.injEq] at hr
        subst hr
        have := Nat.eq_of_beq_eq_true hn
        subst this
        exact ⟨_, _, _, [], rfl, by omega, concL_nil, by simp, fun hne => absurd rfl hne, rfl⟩
      | false =>
        simp only [hn] at hr
        obtain ⟨b', o', c2, us, h1, h2, h3, h4⟩ := cells_sound r hr
        rw [hi] at h1; cases h1
        exact ⟨_, _, _, us, rfl, by omega, h2, h3, fun _ => ⟨_, rfl, rfl, fun j v hj => by rw [Addr.add_row]; exact h4 j v hj⟩, rfl⟩
  · obtain ⟨b, o, c', hi, rfl⟩ := cesl hx
    cases hr
    exact ⟨_, _, _, [], rfl, Nat.zero_le _, concL_nil, by simp, fun hne => absurd rfl hne, rfl⟩
  · cases cv hx
    cases hr
    exact ⟨_, _, _, [], rfl, Nat.le_refl _, concL_nil, by simp, fun hne => absurd rfl hne, rfl⟩
  · cases hr

/-- comparisons. -/
theorem eqsem_of {t : TypeId} {X Y : Operand} {a b : Value} {r : Bool} (hg : ∀ op (w : World), (eqGuard op t X Y a b).run P w = .ok () w) (he : ∀ w : World, (Op.equal t a b).run P w = .ok r w)
    (hb : binOp .eql t a b = (do pure (.bool (← Op.equal t a b)) : Sem Value)) (hb' : binOp .neq t a b = (do pure (.bool (!(← Op.equal t a b))) : Sem Value)) :
    Reads P (eqSem .eql t X Y a b) h (.bool r) ∧ Reads P (eqSem .neq t X Y a b) h (.bool !r) := by
  constructor <;> refine ⟨fun w _ => ?_⟩ <;> simp [eqSem, hg, hb, hb', he]
theorem eq_run {t : TypeId} {a b : Value} {r : Bool} {w : World} (hd : ∀ d, (Op.equalIn (d + 1) t a b).run P w = .ok r w) : (Op.equal t a b).run P w = .ok r w := hd 9999
theorem eq1_sound {t : TypeId} {X Y : Operand} {x y : SV} {a b : Value} {r : Bool} (hx : conc m x = some a) (hy : conc m y = some b) (hr : eqSc1 (P.underlying t) x y = some r) :
    Reads P (eqSem .eql t X Y a b) h (.bool r) ∧ Reads P (eqSem .neq t X Y a b) h (.bool !r) := by
  cases hu : P.underlying t with
  | none => rw [hu] at hr; simp [eqSc1] at hr
  | some d =>
    rw [hu] at hr
    unfold eqSc1 at hr
    split at hr <;> try (cases hr; done)
    all_goals
      rename_i hd
      simp only [Option.some.injEq] at hd hr
      subst hd
      subst hr
    · cases cv hx; cases cv hy
      exact eqsem_of (fun op w => by cases op <;> rfl) (fun w => eq_run fun d => by simp [Op.equalIn, run_underlying hu]) rfl rfl
    · cases cv hx; cases cv hy
      exact eqsem_of (fun op w => by cases op <;> rfl) (fun w => eq_run fun d => by simp [Op.equalIn, run_underlying hu]) rfl rfl
    · cases cv hx; obtain ⟨_, _, _, _, rfl⟩ := cptr hy
      exact eqsem_of (fun op w => by cases op <;> rfl) (fun w => eq_run fun d => by simp [Op.equalIn, run_underlying hu]) rfl rfl
    · cases cv hy; obtain ⟨_, _, _, _, rfl⟩ := cptr hx
      exact eqsem_of (fun op w => by cases op <;> rfl) (fun w => eq_run fun d => by simp [Op.equalIn, run_underlying hu]) rfl rfl
    · cases cv hx; obtain ⟨_, _, rfl⟩ := cifc hy
      exact eqsem_of (fun op w => by cases op <;> rfl) (fun w => eq_run fun d => by simp [Op.equalIn, run_underlying hu]) rfl rfl
    · cases cv hy; obtain ⟨_, _, rfl⟩ := cifc hx
      exact eqsem_of (fun op w => by cases op <;> rfl) (fun w => eq_run fun d => by simp [Op.equalIn, run_underlying hu]) rfl rfl
    · cases cv hx; obtain ⟨_, _, _, _, _, rfl⟩ := csl hy
      exact eqsem_of (fun op w => by cases op <;> rfl) (fun w => eq_run fun d => by simp [Op.equalIn, run_underlying hu]) rfl rfl
    · cases cv hx; obtain ⟨_, _, _, _, _, rfl⟩ := cosl hy
      exact eqsem_of (fun op w => by cases op <;> rfl) (fun w => eq_run fun d => by simp [Op.equalIn, run_underlying hu]) rfl rfl
    · cases cv hx; cases cv hy
      exact eqsem_of (fun op w => by cases op <;> rfl) (fun w => eq_run fun d => by simp [Op.equalIn, run_underlying hu]) rfl rfl
    · cases cv hx; obtain ⟨_, _, _, _, rfl⟩ := cesl hy
      exact eqsem_of (fun op w => by cases op <;> rfl) (fun w => eq_run fun d => by simp [Op.equalIn, run_underlying hu]) rfl rfl
    · cases cv hy; obtain ⟨_, _, _, _, rfl⟩ := cesl hx
      exact eqsem_of (fun op w => by cases op <;> rfl) (fun w => eq_run fun d => by simp [Op.equalIn, run_underlying hu]) rfl rfl
    · cases cv hy; obtain ⟨_, _, _, _, _, rfl⟩ := csl hx
      exact eqsem_of (fun op w => by cases op <;> rfl) (fun w => eq_run fun d => by simp [Op.equalIn, run_underlying hu]) rfl rfl
    · cases cv hy; obtain ⟨_, _, _, _, _, rfl⟩ := cosl hx
      exact eqsem_of (fun op w => by cases op <;> rfl) (fun w => eq_run fun d => by simp [Op.equalIn, run_underlying hu]) rfl rfl
    · cases cv hx; obtain ⟨_, _, _, _, rfl⟩ := cmap hy
      exact eqsem_of (fun op w => by cases op <;> rfl) (fun w => eq_run fun d => by simp [Op.equalIn, run_underlying hu]) rfl rfl
    · cases cv hy; obtain ⟨_, _, _, _, rfl⟩ := cmap hx
      exact eqsem_of (fun op w => by cases op <;> rfl) (fun w => eq_run fun d => by simp [Op.equalIn, run_underlying hu]) rfl rfl
    · cases cv hx; cases cv hy
      exact eqsem_of (fun op w => by cases op <;> rfl) (fun w => eq_run fun d => by simp [Op.equalIn, run_underlying hu]) rfl rfl
    · cases cv hx; obtain ⟨_, _, _, _, rfl⟩ := cfn hy
      exact eqsem_of (fun op w => by cases op <;> rfl) (fun w => eq_run fun d => by simp [Op.equalIn, run_underlying hu]) rfl rfl
    · cases cv hy; obtain ⟨_, _, _, _, rfl⟩ := cfn hx
      exact eqsem_of (fun op w => by cases op <;> rfl) (fun w => eq_run fun d => by simp [Op.equalIn, run_underlying hu]) rfl rfl
    · cases cv hx; cases cv hy
      exact eqsem_of (fun op w => by cases op <;> rfl) (fun w => eq_run fun d => by simp [Op.equalIn, run_underlying hu]) rfl rfl
theorem ints_sound : ∀ {l : List SV} {vs us : List Value}, intsS l = some vs → concL m l = some us → us = vs
  | [], vs, us, h, hu => by rw [concL_nil] at hu; cases hu; simp only [intsS, Option.some.injEq] at h; exact h
  | x :: l, vs, us, h, hu => by
    obtain ⟨u, us', h1, h2, rfl⟩ := concL_cons.1 hu
    unfold intsS at h
    split at h
    · rename_i heq; cases heq
    · rename_i k n l' heq
      cases heq
      cases hi : intsS l with
      | none => simp [hi] at h
      | some r =>
        simp only [hi, Option.some.injEq] at h
        subst h
        rw [cv h1, ints_sound hi h2]
    · cases h
theorem eqLit_iff : ∀ {a b : List Lit} {r : Bool}, eqLit a b = some r → (r = true ↔ a = b)
  | [], [], r, h => by simp only [eqLit, Option.some.injEq] at h; subst h; simp
  | [], y :: ys, r, h => by simp [eqLit] at h
  | x :: xs, [], r, h => by cases x <;> simp [eqLit] at h
  | x :: xs, y :: ys, r, h => by
    cases x <;> cases y <;> simp only [eqLit, reduceCtorEq] at h
    rename_i k a k' b
    cases hk : eqKind k k' with
    | false => simp [hk] at h
    | true =>
      cases hl : eqLit xs ys with
      | none => simp [hk, hl] at h
      | some r' =>
        simp only [hk, hl, Option.some.injEq] at h
        subst h
        obtain rfl := eqKind_eq hk
        simp only [Bool.and_eq_true, beq_iff_eq, List.cons.injEq, Lit.int.injEq, true_and, eqLit_iff hl]
/-- structs, and what lies in them, compared. -/
theorem reads_deepC {t : TypeId} {k D : Nat} {xs ys : Array Value} {lx ly : List Lit} {x y : Operand} {r : Bool} (hm : k ≤ 10000) (hk : P.keyTypeAt k t = true) (hg : P.eqGuardType P.depth t = false)
    (fx : (Value.agg xs).formed P t = true) (fy : (Value.agg ys).formed P t = true) (ex : P.keyLits D t xs.toList = some lx) (ey : P.keyLits D t ys.toList = some ly) (hr : r = true ↔ lx = ly) :
    Reads P (eqSem .eql t x y (.agg xs) (.agg ys)) h (.bool r) ∧ Reads P (eqSem .neq t x y (.agg xs) (.agg ys)) h (.bool !r) := by
  have run : ∀ w : World, (Op.equal t (.agg xs) (.agg ys)).run P w = .ok r w := fun w => by
    unfold Op.equal Op.maxDepth
    obtain ⟨q, hq, hi⟩ := run_equalIn_deep (P := P) (10000 - k) k t hk w D D (.agg xs) (.agg ys) lx ly fx fy ex ey
    rw [Nat.sub_add_cancel hm] at hq
    rw [hq]
    congr 1
    have h2 := hi.trans hr.symm
    cases q <;> cases r <;> simp_all
  have g : ∀ (w : World) op, (eqGuard op t x y (.agg xs) (.agg ys)).run P w = .ok () w := fun w op => by
    cases op <;> first | rfl | simp [eqGuard, hg]
  constructor <;> refine ⟨fun w _ => ?_⟩ <;> simp [eqSem, g, binOp, run]
theorem eq_sound {t : TypeId} {X Y : Operand} {x y : SV} {a b : Value} {r : Bool} (hx : conc m x = some a) (hy : conc m y = some b) (hr : eqS P t x y = some r) :
    Reads P (eqSem .eql t X Y a b) h (.bool r) ∧ Reads P (eqSem .neq t X Y a b) h (.bool !r) := by
  unfold eqS at hr
  split at hr
  · rename_i xs ys
    obtain ⟨us, h1, rfl⟩ := cagg hx
    obtain ⟨vs, h2, rfl⟩ := cagg hy
    unfold eqAgg at hr
    split at hr <;> try (cases hr; done)
    rename_i la lb hla hlb hk
    simp only [Bool.and_eq_true, Bool.not_eq_true'] at hk
    split at hr <;> try (cases hr; done)
    rename_i ka kb hf hka hkb
    simp only [Bool.and_eq_true] at hf
    obtain rfl := ints_sound hla h1
    obtain rfl := ints_sound hlb h2
    exact reads_deepC (k := 4) (D := 4) (by omega) hk.1 hk.2 hf.1 hf.2 (by simpa using hka) (by simpa using hkb) (eqLit_iff hr)
  · rename_i i o j o'
    split at hr <;> try (cases hr; done)
    rename_i e hu
    split at hr <;> try (cases hr; done)
    rename_i sz hs
    cases hb : Nat.beq i j with
    | false => simp [hb] at hr
    | true =>
      have := Nat.eq_of_beq_eq_true hb
      subst this
      simp only [hb, Option.some.injEq] at hr
      subst hr
      obtain ⟨b, q, c, hi, rfl⟩ := cptr hx
      obtain ⟨b', q', c', hi', rfl⟩ := cptr hy
      rw [hi] at hi'; cases hi'
      refine eqsem_of (fun op w => by cases op <;> rfl) (fun w => ?_) rfl rfl
      have hbe : ((⟨b, q + o, none⟩ : Addr) == ⟨b, q + o', none⟩) = Nat.beq o o' := by
        cases hb2 : Nat.beq o o' with
        | true => rw [Nat.eq_of_beq_eq_true hb2]; simp
        | false =>
          refine beq_eq_false_iff_ne.2 fun e => Nat.ne_of_beq_eq_false hb2 ?_
          have := congrArg Addr.off e
          simp at this; exact this
      exact eq_run fun d => by simp [Op.equalIn, run_underlying hu, run_szOf hs, sameAddr, hbe]
  · exact eq1_sound hx hy hr

theorem nil_sound {x : SV} {a : Value} (hn : isNilI x = true) (hx : conc m x = some a) : a = .nilIface := by
  unfold isNilI at hn
  split at hn
  · exact cv hx
  · cases hn
theorem eqO_sound {t : TypeId} {X Y : Operand} {x y : SV} {a b : Value} {r : Bool} (hx : conc m x = some a) (hy : conc m y = some b) (hr : eqO P t X Y x y = some r) :
    Reads P (eqSem .eql t X Y a b) h (.bool r) ∧ Reads P (eqSem .neq t X Y a b) h (.bool !r) := by
  unfold eqO at hr
  cases hn : isNilI x && isNilI y with
  | false => simp only [hn] at hr; exact eq_sound hx hy hr
  | true =>
    simp only [hn] at hr
    simp only [Bool.and_eq_true] at hn
    obtain rfl := nil_sound hn.1 hx
    obtain rfl := nil_sound hn.2 hy
    split at hr <;> try (cases hr; done)
    rename_i ms hc hu
    simp only [Option.some.injEq] at hr
    subst hr
    refine eqsem_of (fun op w => ?_) (fun w => eq_run fun d => by simp [Op.equalIn, run_underlying hu]) rfl rfl
    cases X <;> cases Y <;> simp [isCn] at hc <;> cases op <;> simp [eqGuard]
/- maps -/
theorem find_sound {q : List Nat} (hq : lt256 q = true) : ∀ {es : List (SV × SV × Nat)} {us : List MapEntry}, keysOk es = true → concE m es = some us → ∀ i,
    (findS es q = none → Instr.findNow .string (.string (bytesOf q)) us i = some none) ∧
    (∀ k v b, findS es q = some (k, v, b) → ∃ j v', conc m v = some v' ∧ Instr.findNow .string (.string (bytesOf q)) us i = some (some (i + j, v')) ∧ us[j]? = some { key := .string (bytesOf q), val := v', born := b })
  | [], us, _, he, i => by
    simp only [concE, Option.some.injEq] at he
    subst he
    exact ⟨fun _ => rfl, fun k v b h => by simp [findS] at h⟩
  | (k, v, b) :: es, us, hk, he, i => by
    obtain ⟨k', v', us', h1, h2, h3, rfl⟩ := concE_cons.1 he
    cases k <;> simp only [keysOk, Bool.false_eq_true] at hk
    rename_i s
    obtain ⟨hs, rfl⟩ := cstr h1
    have hbeq : ((bytesOf q == bytesOf s) : Bool) = eqN q s := by rw [beq_toListBytes]; exact eqN_bytes hq hs
    have ih := find_sound hq hk h3 (i + 1)
    cases he2 : eqN q s with
    | true =>
      have := eqN_iff.1 he2
      subst this
      refine ⟨fun h => by simp [findS, he2] at h, fun k' v2 b' h => ?_⟩
      simp only [findS, he2, Option.some.injEq, Prod.mk.injEq] at h
      obtain ⟨_, rfl, rfl⟩ := h
      refine ⟨0, v', h2, ?_, rfl⟩
      simp only [Instr.findNow, Instr.sameNow, hbeq, he2, Nat.add_zero]
    | false =>
      refine ⟨fun h => ?_, fun k' v2 b' h => ?_⟩
      · simp only [findS, he2] at h
        simp only [Instr.findNow, Instr.sameNow, hbeq, he2]
        exact ih.1 h
      · simp only [findS, he2] at h
        obtain ⟨j, w, k1, k2, k3⟩ := ih.2 _ _ _ h
        refine ⟨j + 1, w, k1, ?_, by simpa using k3⟩
        simp only [Instr.findNow, Instr.sameNow, hbeq, he2]
        rw [k2]; congr 3; omega
theorem concE_len : ∀ {es : List (SV × SV × Nat)} {us : List MapEntry}, concE m es = some us → us.length = es.length
  | [], us, h => by simp only [concE, Option.some.injEq] at h; subst h; rfl
  | (k, v, b) :: es, us, h => by
    obtain ⟨k', v', us', h1, h2, h3, rfl⟩ := concE_cons.1 h
    simp [concE_len h3]
theorem run_findKey {kt : TypeId} (hk : P.underlying kt = some .string) {q : ByteArray} {us : List MapEntry} {r : Option (Nat × Value)} (hf : Instr.findNow .string (.string q) us 0 = some r) (w : World) :
    (Instr.findKey kt (.string q) us).run P w = .ok r w := by
  simp only [Instr.findKey, Sem.run_bind, run_underlying hk, Result.andThen_ok, hf, Sem.run_pure]
theorem run_zero {t : TypeId} {z : Value} (hz : (P.info? t).bind (·.zero) = some z) (w : World) : (zeroValue t).run P w = .ok z w := by
  cases hi : P.info? t with
  | none => simp [hi] at hz
  | some i => simp [hi] at hz; simp [zeroValue, typeInfo, hi, hz]
theorem okV_sound {y : SV} {u : Value} {bo : Bool} (hy : conc m y = some u) : ∀ {ok : Bool}, conc m (okV ok y bo) = some (if ok then .tuple #[u, .bool bo] else u)
  | true => ctup_of (concL_cons.2 ⟨_, _, hy, concL_cons.2 ⟨_, _, cv_of rfl, concL_nil, rfl⟩, rfl⟩)
  | false => hy
theorem look_sound (r : Rel h0 m T h) {t : TypeId} {x ix v : SV} {a b : Value} {ok : Bool} (hx : conc m x = some a) (hi : conc m ix = some b) (hl : lookS P T t x ix ok = some v) :
    ∃ w, conc m v = some w ∧ Reads P (Instr.lookup t a b ok) h w := by
  unfold lookS at hl
  split at hl <;> try (cases hl; done)
  rename_i kt et ht
  split at hl <;> try (cases hl; done)
  rename_i q z hkt hz
  obtain ⟨hq, rfl⟩ := cstr hi
  have hzero : ∃ zv, (P.info? et).bind (·.zero) = some zv ∧ conc m z = some zv := by
    unfold zeroS at hz
    cases hzz : (P.info? et).bind (·.zero) with
    | none => simp [hzz] at hz
    | some zv => simp only [hzz] at hz; exact ⟨zv, rfl, conc_ofC hz⟩
  obtain ⟨zv, hz1, hz2⟩ := hzero
  -- what a map gives
  have fin : ∀ (y : SV) (u : Value) (bo : Bool), conc m y = some u → some (okV ok y bo) = some v → conc m v = some (if ok then .tuple #[u, .bool bo] else u) := fun y u bo hy e => by
    cases Option.some.inj e
    exact okV_sound hy
  cases x <;> (try simp only at hl) <;> try (cases hl; done)
  case v u =>
    cases u <;> (try simp only at hl) <;> try (cases hl; done)
    case map p =>
      cases p <;> (try simp only at hl) <;> try (cases hl; done)
      cases cv hx
      refine ⟨_, fin z zv false hz2 hl, ⟨fun w _ => ?_⟩⟩
      have hc := Go.Vc.check_string (P := P) hkt 9999 true (bytesOf q) w
      simp only [Instr.lookup, Sem.run_bind, run_underlying ht, Result.andThen_ok, Sem.run_pure, Array.isEmpty_empty, hc, List.toList_toArray, run_findKey hkt (q := bytesOf q) (us := []) (r := none) rfl, run_zero hz1]
  case map i =>
    cases hg : T.get i with
    | none => simp [hg] at hl
    | some o =>
      cases o <;> (try simp only [hg] at hl) <;> try (cases hl; done)
      rename_i es c
      cases hk : keysOk es with
      | false => simp [hk] at hl
      | true =>
        simp only [hk] at hl
        obtain ⟨bl, off, cap, hi', rfl⟩ := cmap hx
        obtain ⟨b', off', cap', ob, h1, h2, h3, h4⟩ := r.live i _ hg
        rw [hi'] at h1; cases h1
        obtain ⟨us, h5, rfl⟩ := h4
        have hf := find_sound hq hk h5 0
        cases hfs : findS es q with
        | none =>
          simp only [hfs] at hl
          refine ⟨_, fin z zv false hz2 hl, ⟨fun w hw => ?_⟩⟩
          subst hw
          have hget : (getObj bl).run P w = .ok (.map us.toArray c) w := by simp [getObj, Sem.run, h3]
          have hc := Go.Vc.check_string (P := P) hkt 9999 (us.toArray.isEmpty) (bytesOf q) w
          simp only [Instr.lookup, Sem.run_bind, run_underlying ht, Result.andThen_ok, Sem.run_pure, hget, hc, run_findKey hkt (hf.1 hfs), run_zero hz1]
        | some e =>
          obtain ⟨k, y, bn⟩ := e
          simp only [hfs] at hl
          obtain ⟨j, v', k1, k2, k3⟩ := hf.2 _ _ _ hfs
          refine ⟨_, fin y v' true k1 hl, ⟨fun w hw => ?_⟩⟩
          subst hw
          have hget : (getObj bl).run P w = .ok (.map us.toArray c) w := by simp [getObj, Sem.run, h3]
          have hc := Go.Vc.check_string (P := P) hkt 9999 (us.toArray.isEmpty) (bytesOf q) w
          simp only [Instr.lookup, Sem.run_bind, run_underlying ht, Result.andThen_ok, Sem.run_pure, hget, hc, run_findKey hkt k2]
theorem bytes_sound : ∀ {l : List SV} {us : List Value} {bs : List Nat}, concL m l = some us → bytesS l = some bs → lt256 bs = true ∧ us = bs.map fun b : Nat => Value.int .u8 (b : Int)
  | [], us, bs, h, hb => by rw [concL_nil] at h; cases h; simp only [bytesS, Option.some.injEq] at hb; subst hb; exact ⟨rfl, rfl⟩
  | x :: l, us, bs, h, hb => by
    obtain ⟨u, us', h1, h2, rfl⟩ := concL_cons.1 h
    unfold bytesS at hb
    split at hb
    · rename_i heq; cases heq
    · rename_i n l' heq
      cases heq
      cases hd : decide (0 ≤ n) && decide (n < 256) with
      | false => simp [hd] at hb
      | true =>
        cases hr : bytesS l with
        | none => simp [hd, hr] at hb
        | some r' =>
          simp only [hd, hr, Option.some.injEq] at hb
          subst hb
          simp only [Bool.and_eq_true, decide_eq_true_eq] at hd
          obtain ⟨k1, k2⟩ := bytes_sound h2 hr
          refine ⟨by simp only [lt256, k1, Bool.and_true]; exact Nat.ble_eq_true_of_le (by omega), ?_⟩
          rw [cv h1, k2]
          simp only [List.map_cons, List.cons.injEq, Value.int.injEq, true_and, and_true]
          omega
    · cases hb
/-- EACH OPERATION THAT ONLY LOOKS. -/
theorem re_sound (r : Rel h0 m T h) {o : Oper} {ρs : Operand → Option SV} {ρ : Operand → Value} {v : SV} (hρ : ∀ x s, ρs x = some s → conc m s = some (ρ x)) (hl : reV P o ρs T = some v) :
    ∃ u, conc m v = some u ∧ ReadAt P o ρ h u := by
  have run : ∀ {s : Sem Value} {u : Value}, semR o ρ = some s → Reads P s h u → ReadAt P o ρ h u := fun hs hr w hw => .inl (exec_semR hs (hr.run w hw))
  obtain ⟨dst, op, ty, pos, after, guard⟩ := o
  cases op <;> simp only [reV, reduceCtorEq] at hl
  case binOp op t x y yt =>
    cases hx : ρs x with
    | none => simp [hx] at hl
    | some a => cases hy : ρs y with
      | none => simp [hx, hy] at hl
      | some b =>
        simp only [hx, hy] at hl
        cases he : eqO P t x y a b with
        | none => simp [he] at hl
        | some rr =>
          simp only [he] at hl
          obtain ⟨e1, e2⟩ := eqO_sound (h := h) (hρ _ _ hx) (hρ _ _ hy) he
          cases op <;> simp only [reduceCtorEq, Option.some.injEq] at hl
          · subst hl; exact ⟨_, cv_of rfl, run rfl e1⟩
          · subst hl; exact ⟨_, cv_of rfl, run rfl e2⟩
  case convert s d x =>
    split at hl <;> try (cases hl; done)
    rename_i e v' hs hd hx
    split at hl <;> try (cases hl; done)
    rename_i he
    cases hr : rowS T 1 v' with
    | none => simp [hr] at hl
    | some cs => cases hb : bytesS cs with
      | none => simp [hr, hb] at hl
      | some l =>
        simp only [hr, hb, Option.some.injEq] at hl
        subst hl
        obtain ⟨a, n, c, us, e1, e2, e3, e4, e5, _⟩ := row_sound r (hρ _ _ hx) hr
        obtain ⟨k1, k2⟩ := bytes_sound e3 hb
        refine ⟨_, cstr_of k1, run (s := convert s d (ρ x)) rfl ?_⟩
        rw [e1]
        have hlen : l.length = n := by rw [k2] at e4; simpa using e4
        have : Sl ByteE h a n (l.map UInt8.ofNat) := by
          refine ⟨by simpa using hlen, ?_⟩
          by_cases hn : n = 0
          · left; rw [hn] at hlen; rw [List.length_eq_zero_iff.1 hlen]; rfl
          · right
            obtain ⟨p, hp, _, hc⟩ := e5 hn
            refine ⟨p, hp, fun i b hb' j w hj => ?_⟩
            have hj0 : j = 0 := by
              have := (List.getElem?_eq_some_iff.1 hj).1
              simp [ByteE] at this; exact this
            subst hj0
            simp only [ByteE, List.getElem?_cons_zero, Option.some.injEq] at hj
            subst hj
            rw [List.getElem?_map] at hb'
            cases hli : l[i]? with
            | none => simp [hli] at hb'
            | some q =>
              simp only [hli, Option.map_some, Option.some.injEq] at hb'
              subst hb'
              rw [u8_toNat (lt_get k1 hli)]
              have := hc i (.int .u8 (q : Int)) (by rw [k2, List.getElem?_map, hli]; rfl)
              simpa [ByteE] using this
        exact reads_string (P := P) hs he hd this
  case load t a =>
    cases hx : ρs a with
    | none => simp [hx] at hl
    | some x =>
      simp only [hx] at hl
      obtain ⟨w, h1, h2⟩ := load_sound (P := P) r (hρ _ _ hx) hl
      exact ⟨w, h1, run (s := Instr.loadAt t (ρ a)) rfl h2⟩
  case lookup t x ix ok =>
    cases hx : ρs x with
    | none => simp [hx] at hl
    | some a => cases hi : ρs ix with
      | none => simp [hx, hi] at hl
      | some b =>
        simp only [hx, hi] at hl
        obtain ⟨w, h1, h2⟩ := look_sound (P := P) r (hρ _ _ hx) (hρ _ _ hi) hl
        exact ⟨w, h1, run (s := Instr.lookup t (ρ x) (ρ ix) ok) rfl h2⟩
  case call cl =>
    obtain ⟨callee, args, argTypes⟩ := cl
    cases callee <;> try (cases hl; done)
    case builtin b =>
      cases b <;> simp only [reduceCtorEq] at hl
      case len =>
        cases hat : argTypes[0]? with
        | none => simp [hat] at hl
        | some at0 =>
          cases ha : args[0]? with
          | none => simp [ha] at hl
          | some x =>
            simp only [hat, ha, Option.bind_some] at hl
            have hmp : (mapA ρ args)[0]? = some (ρ x) := by rw [mapA_eq]; simp [ha]
            split at hl <;> try (cases hl; done)
            · rename_i kt et i ht hx
              cases hg : T.get i with
              | none => simp [hg] at hl
              | some o =>
                cases o <;> simp only [hg, reduceCtorEq, Option.some.injEq] at hl
                rename_i es c
                subst hl
                obtain ⟨bl, off, cap, hi', e'⟩ := cmap (hρ _ _ hx)
                obtain ⟨b', off', cap', ob, h1, h2, h3, h4⟩ := r.live i _ hg
                rw [hi'] at h1; cases h1
                obtain ⟨us, h5, rfl⟩ := h4
                refine ⟨_, cv_of rfl, run (s := Builtin.len_ argTypes ty (mapA ρ args)) rfl ⟨fun w hw => ?_⟩⟩
                subst hw
                have hget : (getObj bl).run P w = .ok (.map us.toArray c) w := by simp [getObj, Sem.run, h3]
                simp [Builtin.len_, hat, hmp, e', run_underlying ht, hget, goInt, concE_len h5]
            · rename_i kt et ht hx
              simp only [Option.some.injEq] at hl
              subst hl
              refine ⟨_, cv_of rfl, run (s := Builtin.len_ argTypes ty (mapA ρ args)) rfl ⟨fun w hw => ?_⟩⟩
              simp [Builtin.len_, hat, hmp, cv (hρ _ _ hx), run_underlying ht, goInt]
      case min =>
        split at hl <;> try (cases hl; done)
        rename_i k a k' b ha
        simp only [Option.some.injEq] at hl
        subst hl
        have hargs := args_sound hρ ha
        obtain ⟨u1, us1, q1, q2, q3⟩ := concL_cons.1 hargs
        obtain ⟨u2, us2, q4, q5, rfl⟩ := concL_cons.1 q2
        rw [concL_nil] at q5; cases q5
        cases cv q1; cases cv q4
        have hm : mapA ρ args = #[.int k a, .int k' b] := by unfold mapA; rw [q3]
        refine ⟨.int k (if b < a then b else a), ?_, run (s := Builtin.min_ argTypes ty (mapA ρ args)) rfl ⟨fun w hw => ?_⟩⟩
        · by_cases hba : b < a <;> simp [hba, conc, isAggV]
        · rw [hm]; simp [Builtin.min_, Builtin.min2]
      case max =>
        split at hl <;> try (cases hl; done)
        rename_i k a k' b ha
        simp only [Option.some.injEq] at hl
        subst hl
        have hargs := args_sound hρ ha
        obtain ⟨u1, us1, q1, q2, q3⟩ := concL_cons.1 hargs
        obtain ⟨u2, us2, q4, q5, rfl⟩ := concL_cons.1 q2
        rw [concL_nil] at q5; cases q5
        cases cv q1; cases cv q4
        have hm : mapA ρ args = #[.int k a, .int k' b] := by unfold mapA; rw [q3]
        refine ⟨.int k (if b > a then b else a), ?_, run (s := Builtin.max_ argTypes ty (mapA ρ args)) rfl ⟨fun w hw => ?_⟩⟩
        · by_cases hba : b > a <;> simp [hba, conc, isAggV]
        · rw [hm]; simp [Builtin.max_, Builtin.max2]
end
end Go.Ce
end

section
set_option linter.unusedVariables false
set_option linter.unusedSimpArgs false
set_option maxRecDepth 100000
namespace Go.Proofs
open Go.Shelf Go.RowKit

section
open Go.Shelf
def Tryz.laysSplit_ren : Go.Shelf.Ren := ⟨fun | 146 => 9 | 221 => 16 | 268 => 44 | 138 => 45 | 143 => 46 | 195 => 81 | 197 => 82 | 218 => 83 | 219 => 84 | 260 => 142 | 217 => 143 | 225 => 144 | 224 => 145 | 267 => 146 | 266 => 206 | 314 => 207 | n => n, fun | 9 => 9 | 31 => 28 | 3 => 3 | 4 => 4 | 0 => 0 | 105 => 167 | 21 => 21 | 5 => 5 | 46 => 33 | 119 => 341 | 139 => 344 | 138 => 343 | 146 => 346 | 51 => 345 | n => n, fun | 1 => 0 | 3 => 3 | 4 => 4 | n => n⟩
theorem Tryz.laysSplit : Go.Proofs.LaysM.n146 Tryz.prog Tryz.laysSplit_ren := {
  mixed := by kernel_rfl
  f138 := Tryz.func45.trans (congrArg some (by kernel_rfl))
  f143 := Tryz.func46.trans (congrArg some (by kernel_rfl))
  f146 := Tryz.func9.trans (congrArg some (by kernel_rfl))
  f195 := Tryz.func81.trans (congrArg some (by kernel_rfl))
  f197 := Tryz.func82.trans (congrArg some (by kernel_rfl))
  f217 := Tryz.func143.trans (congrArg some (by kernel_rfl))
  f218 := Tryz.func83.trans (congrArg some (by kernel_rfl))
  f219 := Tryz.func84.trans (congrArg some (by kernel_rfl))
  f221 := Tryz.func16.trans (congrArg some (by kernel_rfl))
  f224 := Tryz.func145.trans (congrArg some (by kernel_rfl))
  f225 := Tryz.func144.trans (congrArg some (by kernel_rfl))
  f260 := Tryz.func142.trans (congrArg some (by kernel_rfl))
  f266 := Tryz.func206.trans (congrArg some (by kernel_rfl))
  f267 := Tryz.func146.trans (congrArg some (by kernel_rfl))
  f268 := Tryz.func44.trans (congrArg some (by kernel_rfl))
  f314 := Tryz.func207.trans (congrArg some (by kernel_rfl))
  t0 := Tryz.underlying0
  a0 := Tryz.isAgg0
  z0 := Tryz.sizeOf0
  v0 := Tryz.zeroValue0
  t3 := Tryz.underlying3
  a3 := Tryz.isAgg3
  z3 := Tryz.sizeOf3
  v3 := Tryz.zeroValue3
  t4 := Tryz.underlying4
  a4 := Tryz.isAgg4
  z4 := Tryz.sizeOf4
  v4 := Tryz.zeroValue4
  t5 := Tryz.underlying5
  a5 := Tryz.isAgg5
  z5 := Tryz.sizeOf5
  v5 := Tryz.zeroValue5
  t9 := Tryz.underlying9
  a9 := Tryz.isAgg9
  z9 := Tryz.sizeOf9
  v9 := Tryz.zeroValue9
  t21 := Tryz.underlying21
  a21 := Tryz.isAgg21
  z21 := Tryz.sizeOf21
  v21 := Tryz.zeroValue21
  t31 := Tryz.underlying28
  a31 := Tryz.isAgg28
  z31 := Tryz.sizeOf28
  v31 := Tryz.zeroValue28
  t46 := Tryz.underlying33
  a46 := Tryz.isAgg33
  z46 := Tryz.sizeOf33
  v46 := Tryz.zeroValue33
  t51 := Tryz.underlying345
  a51 := Tryz.isAgg345
  z51 := Tryz.sizeOf345
  v51 := Tryz.zeroValue345
  t105 := Tryz.underlying167
  a105 := Tryz.isAgg167
  z105 := Tryz.sizeOf167
  v105 := Tryz.zeroValue167
  t119 := Tryz.underlying341
  a119 := Tryz.isAgg341
  z119 := Tryz.sizeOf341
  t138 := Tryz.underlying343
  a138 := Tryz.isAgg343
  z138 := Tryz.sizeOf343
  v138 := Tryz.zeroValue343
  t139 := Tryz.underlying344
  a139 := Tryz.isAgg344
  z139 := Tryz.sizeOf344
  v139 := Tryz.zeroValue344
  t146 := Tryz.underlying346
  a146 := Tryz.isAgg346
  z146 := Tryz.sizeOf346
  v146 := Tryz.zeroValue346
  g1 := by kernel_rfl
  g3 := by kernel_rfl
  g4 := by kernel_rfl
  i0 := by kernel_rfl
  i3 := by kernel_rfl
  i4 := by kernel_rfl
  i5 := by kernel_rfl
  i9 := by kernel_rfl
  i21 := by kernel_rfl
  i31 := by kernel_rfl
  i46 := by kernel_rfl
  i51 := by kernel_rfl
  i105 := by kernel_rfl
  i138 := by kernel_rfl
  i139 := by kernel_rfl
  i146 := by kernel_rfl
  m1 := by kernel_rfl
  s1_3 := fun w h => Go.Proofs.cell_of_shapedOpen_int (zero := #[.int .i64 0]) (t := 3) h (of_decide_eq_true (by kernel_rfl)) (by kernel_rfl) rfl (by kernel_rfl) (by kernel_rfl) Tryz.underlying3
  m3 := by kernel_rfl
  m4 := by kernel_rfl }
end
section
open Go.Shelf
def Tryz.laysItoa_ren : Go.Shelf.Ren := ⟨fun | 171 => 19 | 243 => 49 | 246 => 90 | 283 => 150 | 284 => 151 | 285 => 152 | 286 => 153 | 129 => 211 | 317 => 210 | 318 => 212 | 319 => 213 | 320 => 214 | 337 => 258 | 338 => 259 | n => n, fun | 3 => 3 | 9 => 9 | 2 => 2 | 4 => 4 | 171 => 272 | 0 => 0 | 53 => 70 | 37 => 23 | 5 => 5 | 173 => 275 | 212 => 353 | 51 => 345 | 20 => 20 | 213 => 354 | 46 => 33 | 232 => 115 | 233 => 400 | n => n, fun | 17 => 5 | 18 => 7 | 19 => 8 | n => n⟩
theorem Tryz.laysItoa : Go.Proofs.LaysM.n171 Tryz.prog Tryz.laysItoa_ren := {
  mixed := by kernel_rfl
  f129 := Tryz.func211.trans (congrArg some (by kernel_rfl))
  f171 := Tryz.func19.trans (congrArg some (by kernel_rfl))
  f243 := Tryz.func49.trans (congrArg some (by kernel_rfl))
  f246 := Tryz.func90.trans (congrArg some (by kernel_rfl))
  f283 := Tryz.func150.trans (congrArg some (by kernel_rfl))
  f284 := Tryz.func151.trans (congrArg some (by kernel_rfl))
  f285 := Tryz.func152.trans (congrArg some (by kernel_rfl))
  f286 := Tryz.func153.trans (congrArg some (by kernel_rfl))
  f317 := Tryz.func210.trans (congrArg some (by kernel_rfl))
  f318 := Tryz.func212.trans (congrArg some (by kernel_rfl))
  f319 := Tryz.func213.trans (congrArg some (by kernel_rfl))
  f320 := Tryz.func214.trans (congrArg some (by kernel_rfl))
  f337 := Tryz.func258.trans (congrArg some (by kernel_rfl))
  f338 := Tryz.func259.trans (congrArg some (by kernel_rfl))
  t0 := Tryz.underlying0
  a0 := Tryz.isAgg0
  z0 := Tryz.sizeOf0
  v0 := Tryz.zeroValue0
  t2 := Tryz.underlying2
  a2 := Tryz.isAgg2
  z2 := Tryz.sizeOf2
  v2 := Tryz.zeroValue2
  t3 := Tryz.underlying3
  a3 := Tryz.isAgg3
  z3 := Tryz.sizeOf3
  v3 := Tryz.zeroValue3
  t4 := Tryz.underlying4
  a4 := Tryz.isAgg4
  z4 := Tryz.sizeOf4
  v4 := Tryz.zeroValue4
  t5 := Tryz.underlying5
  a5 := Tryz.isAgg5
  z5 := Tryz.sizeOf5
  v5 := Tryz.zeroValue5
  t9 := Tryz.underlying9
  a9 := Tryz.isAgg9
  z9 := Tryz.sizeOf9
  v9 := Tryz.zeroValue9
  t20 := Tryz.underlying20
  a20 := Tryz.isAgg20
  z20 := Tryz.sizeOf20
  v20 := Tryz.zeroValue20
  t37 := Tryz.underlying23
  a37 := Tryz.isAgg23
  z37 := Tryz.sizeOf23
  v37 := Tryz.zeroValue23
  t46 := Tryz.underlying33
  a46 := Tryz.isAgg33
  z46 := Tryz.sizeOf33
  v46 := Tryz.zeroValue33
  t51 := Tryz.underlying345
  a51 := Tryz.isAgg345
  z51 := Tryz.sizeOf345
  v51 := Tryz.zeroValue345
  t53 := Tryz.underlying70
  a53 := Tryz.isAgg70
  z53 := Tryz.sizeOf70
  v53 := Tryz.zeroValue70
  t171 := Tryz.underlying272
  a171 := Tryz.isAgg272
  z171 := Tryz.sizeOf272
  v171 := Tryz.zeroValue272
  t173 := Tryz.underlying275
  a173 := Tryz.isAgg275
  z173 := Tryz.sizeOf275
  v173 := Tryz.zeroValue275
  t212 := Tryz.underlying353
  a212 := Tryz.isAgg353
  z212 := Tryz.sizeOf353
  v212 := Tryz.zeroValue353
  t213 := Tryz.underlying354
  a213 := Tryz.isAgg354
  z213 := Tryz.sizeOf354
  t232 := Tryz.underlying115
  a232 := Tryz.isAgg115
  z232 := Tryz.sizeOf115
  v232 := Tryz.zeroValue115
  t233 := Tryz.underlying400
  a233 := Tryz.isAgg400
  z233 := Tryz.sizeOf400
  v233 := Tryz.zeroValue400
  g17 := by kernel_rfl
  g18 := by kernel_rfl
  g19 := by kernel_rfl
  i0 := by kernel_rfl
  i2 := by kernel_rfl
  i3 := by kernel_rfl
  i4 := by kernel_rfl
  i5 := by kernel_rfl
  i9 := by kernel_rfl
  i20 := by kernel_rfl
  i37 := by kernel_rfl
  i46 := by kernel_rfl
  i51 := by kernel_rfl
  i53 := by kernel_rfl
  i171 := by kernel_rfl
  i173 := by kernel_rfl
  i212 := by kernel_rfl
  i232 := by kernel_rfl
  i233 := by kernel_rfl
  m17 := by kernel_rfl
  m18 := by kernel_rfl
  m19 := by kernel_rfl }
end
section
open Go.Shelf
def Tryz.laysAtoi_ren : Go.Shelf.Ren := ⟨fun | 172 => 18 | 244 => 47 | 245 => 48 | 247 => 85 | 279 => 86 | 280 => 87 | 281 => 88 | 282 => 89 | 287 => 147 | 316 => 148 | 171 => 19 | 205 => 149 | 321 => 208 | 322 => 209 | 243 => 49 | 246 => 90 | 283 => 150 | 284 => 151 | 285 => 152 | 286 => 153 | 129 => 211 | 317 => 210 | 318 => 212 | 319 => 213 | 320 => 214 | 337 => 258 | 338 => 259 | n => n, fun | 9 => 9 | 3 => 3 | 75 => 60 | 76 => 61 | 4 => 4 | 5 => 5 | 167 => 170 | 37 => 23 | 0 => 0 | 85 => 171 | 2 => 2 | 168 => 173 | 53 => 70 | 175 => 267 | 46 => 33 | 210 => 270 | 127 => 96 | 145 => 351 | 143 => 349 | 21 => 21 | 171 => 272 | 173 => 275 | 212 => 353 | 51 => 345 | 20 => 20 | 213 => 354 | 232 => 115 | 233 => 400 | 80 => 53 | n => n, fun | 15 => 1 | 16 => 2 | 17 => 5 | 18 => 7 | 19 => 8 | n => n⟩
theorem Tryz.laysAtoi : Go.Proofs.LaysC.n172 Tryz.prog Tryz.laysAtoi_ren := {
  mixed := by kernel_rfl
  f129 := Tryz.func211.trans (congrArg some (by kernel_rfl))
  f171 := Tryz.func19.trans (congrArg some (by kernel_rfl))
  f172 := Tryz.func18.trans (congrArg some (by kernel_rfl))
  f205 := Tryz.func149.trans (congrArg some (by kernel_rfl))
  f243 := Tryz.func49.trans (congrArg some (by kernel_rfl))
  f244 := Tryz.func47.trans (congrArg some (by kernel_rfl))
  f245 := Tryz.func48.trans (congrArg some (by kernel_rfl))
  f246 := Tryz.func90.trans (congrArg some (by kernel_rfl))
  f247 := Tryz.func85.trans (congrArg some (by kernel_rfl))
  f279 := Tryz.func86.trans (congrArg some (by kernel_rfl))
  f280 := Tryz.func87.trans (congrArg some (by kernel_rfl))
  f281 := Tryz.func88.trans (congrArg some (by kernel_rfl))
  f282 := Tryz.func89.trans (congrArg some (by kernel_rfl))
  f283 := Tryz.func150.trans (congrArg some (by kernel_rfl))
  f284 := Tryz.func151.trans (congrArg some (by kernel_rfl))
  f285 := Tryz.func152.trans (congrArg some (by kernel_rfl))
  f286 := Tryz.func153.trans (congrArg some (by kernel_rfl))
  f287 := Tryz.func147.trans (congrArg some (by kernel_rfl))
  f316 := Tryz.func148.trans (congrArg some (by kernel_rfl))
  f317 := Tryz.func210.trans (congrArg some (by kernel_rfl))
  f318 := Tryz.func212.trans (congrArg some (by kernel_rfl))
  f319 := Tryz.func213.trans (congrArg some (by kernel_rfl))
  f320 := Tryz.func214.trans (congrArg some (by kernel_rfl))
  f321 := Tryz.func208.trans (congrArg some (by kernel_rfl))
  f322 := Tryz.func209.trans (congrArg some (by kernel_rfl))
  f337 := Tryz.func258.trans (congrArg some (by kernel_rfl))
  f338 := Tryz.func259.trans (congrArg some (by kernel_rfl))
  t0 := Tryz.underlying0
  a0 := Tryz.isAgg0
  z0 := Tryz.sizeOf0
  v0 := Tryz.zeroValue0
  t2 := Tryz.underlying2
  a2 := Tryz.isAgg2
  z2 := Tryz.sizeOf2
  v2 := Tryz.zeroValue2
  t3 := Tryz.underlying3
  a3 := Tryz.isAgg3
  z3 := Tryz.sizeOf3
  v3 := Tryz.zeroValue3
  t4 := Tryz.underlying4
  a4 := Tryz.isAgg4
  z4 := Tryz.sizeOf4
  v4 := Tryz.zeroValue4
  t5 := Tryz.underlying5
  a5 := Tryz.isAgg5
  z5 := Tryz.sizeOf5
  v5 := Tryz.zeroValue5
  t9 := Tryz.underlying9
  a9 := Tryz.isAgg9
  z9 := Tryz.sizeOf9
  v9 := Tryz.zeroValue9
  t20 := Tryz.underlying20
  a20 := Tryz.isAgg20
  z20 := Tryz.sizeOf20
  v20 := Tryz.zeroValue20
  t21 := Tryz.underlying21
  a21 := Tryz.isAgg21
  z21 := Tryz.sizeOf21
  v21 := Tryz.zeroValue21
  t37 := Tryz.underlying23
  a37 := Tryz.isAgg23
  z37 := Tryz.sizeOf23
  v37 := Tryz.zeroValue23
  t46 := Tryz.underlying33
  a46 := Tryz.isAgg33
  z46 := Tryz.sizeOf33
  v46 := Tryz.zeroValue33
  t51 := Tryz.underlying345
  a51 := Tryz.isAgg345
  z51 := Tryz.sizeOf345
  v51 := Tryz.zeroValue345
  t53 := Tryz.underlying70
  a53 := Tryz.isAgg70
  z53 := Tryz.sizeOf70
  v53 := Tryz.zeroValue70
  t75 := Tryz.underlying60
  a75 := Tryz.isAgg60
  z75 := Tryz.sizeOf60
  v75 := Tryz.zeroValue60
  t76 := Tryz.underlying61
  a76 := Tryz.isAgg61
  z76 := Tryz.sizeOf61
  v76 := Tryz.zeroValue61
  t85 := Tryz.underlying171
  a85 := Tryz.isAgg171
  z85 := Tryz.sizeOf171
  v85 := Tryz.zeroValue171
  t127 := Tryz.underlying96
  a127 := Tryz.isAgg96
  z127 := Tryz.sizeOf96
  v127 := Tryz.zeroValue96
  t143 := Tryz.underlying349
  a143 := Tryz.isAgg349
  z143 := Tryz.sizeOf349
  v143 := Tryz.zeroValue349
  t145 := Tryz.underlying351
  a145 := Tryz.isAgg351
  z145 := Tryz.sizeOf351
  v145 := Tryz.zeroValue351
  t167 := Tryz.underlying170
  a167 := Tryz.isAgg170
  z167 := Tryz.sizeOf170
  v167 := Tryz.zeroValue170
  t168 := Tryz.underlying173
  a168 := Tryz.isAgg173
  z168 := Tryz.sizeOf173
  v168 := Tryz.zeroValue173
  t171 := Tryz.underlying272
  a171 := Tryz.isAgg272
  z171 := Tryz.sizeOf272
  v171 := Tryz.zeroValue272
  t173 := Tryz.underlying275
  a173 := Tryz.isAgg275
  z173 := Tryz.sizeOf275
  v173 := Tryz.zeroValue275
  t175 := Tryz.underlying267
  a175 := Tryz.isAgg267
  z175 := Tryz.sizeOf267
  v175 := Tryz.zeroValue267
  t210 := Tryz.underlying270
  a210 := Tryz.isAgg270
  z210 := Tryz.sizeOf270
  v210 := Tryz.zeroValue270
  t212 := Tryz.underlying353
  a212 := Tryz.isAgg353
  z212 := Tryz.sizeOf353
  v212 := Tryz.zeroValue353
  t213 := Tryz.underlying354
  a213 := Tryz.isAgg354
  z213 := Tryz.sizeOf354
  t232 := Tryz.underlying115
  a232 := Tryz.isAgg115
  z232 := Tryz.sizeOf115
  v232 := Tryz.zeroValue115
  t233 := Tryz.underlying400
  a233 := Tryz.isAgg400
  z233 := Tryz.sizeOf400
  v233 := Tryz.zeroValue400
  g15 := by kernel_rfl
  g16 := by kernel_rfl
  g17 := by kernel_rfl
  g18 := by kernel_rfl
  g19 := by kernel_rfl
  t80 := Tryz.underlying53
  a80 := Tryz.isAgg53
  z80 := Tryz.sizeOf53
  v80 := Tryz.zeroValue53
  i0 := by kernel_rfl
  i2 := by kernel_rfl
  i3 := by kernel_rfl
  i4 := by kernel_rfl
  i5 := by kernel_rfl
  i9 := by kernel_rfl
  i20 := by kernel_rfl
  i21 := by kernel_rfl
  i37 := by kernel_rfl
  i46 := by kernel_rfl
  i51 := by kernel_rfl
  i53 := by kernel_rfl
  i75 := by kernel_rfl
  i76 := by kernel_rfl
  i80 := by kernel_rfl
  i85 := by kernel_rfl
  i127 := by kernel_rfl
  i143 := by kernel_rfl
  i145 := by kernel_rfl
  i167 := by kernel_rfl
  i168 := by kernel_rfl
  i171 := by kernel_rfl
  i173 := by kernel_rfl
  i175 := by kernel_rfl
  i210 := by kernel_rfl
  i212 := by kernel_rfl
  i232 := by kernel_rfl
  i233 := by kernel_rfl
  m15 := by kernel_rfl
  m16 := by kernel_rfl
  m17 := by kernel_rfl
  m18 := by kernel_rfl
  m19 := by kernel_rfl
  c0 := by kernel_rfl
  c2 := by kernel_rfl
  c3 := by kernel_rfl
  c4 := by kernel_rfl
  c5 := by kernel_rfl
  c9 := by kernel_rfl
  c20 := by kernel_rfl
  c21 := by kernel_rfl
  c37 := by kernel_rfl
  c46 := by kernel_rfl
  c51 := by kernel_rfl
  c53 := by kernel_rfl
  c75 := by kernel_rfl
  c76 := by kernel_rfl
  c80 := by kernel_rfl
  c85 := by kernel_rfl
  c127 := by kernel_rfl
  c143 := by kernel_rfl
  c145 := by kernel_rfl
  c167 := by kernel_rfl
  c168 := by kernel_rfl
  c171 := by kernel_rfl
  c173 := by kernel_rfl
  c175 := by kernel_rfl
  c210 := by kernel_rfl
  c212 := by kernel_rfl
  c213 := by kernel_rfl
  c232 := by kernel_rfl
  c233 := by kernel_rfl }
end
theorem Tryz.splitAll (s : ByteArray) (c : UInt8) (m : Int) (w : World) (hs : s.size < 4294967281) (hm : w.cell? ⟨0, 0, none⟩ = some (.int .i64 m)) :
    Calls Tryz.prog 9 #[.string s, .string ⟨#[c]⟩] w fun e w' =>
      e = .returned (.slice (some ⟨w.heap.size, 0, none⟩) (Lib.countB s ⟨#[c]⟩ + 1) (Lib.countB s ⟨#[c]⟩ + 1)) ∧ w' = w.alloc (.cells ((Lib.splitB ⟨#[c]⟩ 0 (Lib.countB s ⟨#[c]⟩) s).map Value.string).toArray 9) :=
  Any.strings_Split { Tryz.laysSplit with } Tryz.laysSplit.i9 s ⟨#[c]⟩ m w hs hm (Nat.le_refl _)
theorem Tryz.itoaAll (n : Int) (h0 : -9223372036854775808 ≤ n) (h1 : n ≤ 9223372036854775807) (w : World) (htab : Lib.TabIs Tryz.prog w "internal/strconv.uint64pow10" .u64 Lib.pow10Tab) :
    Calls Tryz.prog 19 #[.int .i64 n] w fun e w' => e = .returned (.string ⟨(Lib.itoa n).toArray⟩) ∧ ∃ k os, w' = Sort.grow (w.drewN k) os := Any.strconv_Itoa Tryz.laysItoa n h0 h1 w htab
theorem Tryz.atoiOk (s : ByteArray) (hmax : s.size ≤ 9223372036854775806) (v : Int) (h : Lib.atoiAll s.data.toList = .ok v) (w : World) :
    Calls Tryz.prog 18 #[.string s] w fun e w' => e = .returned (.tuple #[.int .i64 v, .nilIface]) ∧ (w' = w ∨ ∃ t, w' = Lib.bytesWorld w 5 t) := Any.strconv_Atoi_ok Tryz.laysAtoi s hmax v h w
theorem Tryz.atoiSyn (s : ByteArray) (hlim : s.size ≤ 281474976710656) (h : ∀ v, Lib.atoiAll s.data.toList ≠ .ok v) (h2 : Lib.atoiAll s.data.toList ≠ .range) (ev : Value) (w : World) (hv : w.cell? ⟨1, 0, none⟩ = some ev) (hev : ev = .nilIface ∨ ∃ te pe, ev = .iface te pe) :
    Calls Tryz.prog 18 #[.string s] w fun e w' => (∃ t p, e = .returned (.tuple #[.int .i64 0, .iface t p])) ∧ Below w.heap.size w w' := by
  cases ha : Lib.atoiAll s.data.toList with
  | ok v => exact absurd ha (h v)
  | range => exact absurd ha h2
  | _ => exact (Any.strconv_Atoi_syntax Tryz.laysAtoi s hlim ha ev w hv hev).mono fun e w' ⟨N, h1, _, _, h4⟩ => ⟨⟨_, _, h1⟩, h4⟩
theorem Tryz.atoiRng (s : ByteArray) (hlim : s.size ≤ 281474976710656) (h : Lib.atoiAll s.data.toList = .range) (ev : Value) (w : World) (hv : w.cell? ⟨2, 0, none⟩ = some ev) (hev : ev = .nilIface ∨ ∃ te pe, ev = .iface te pe) :
    Calls Tryz.prog 18 #[.string s] w fun e w' => (∃ t p, e = .returned (.tuple #[.int .i64 (Lib.atoiSat s.data.toList), .iface t p])) ∧ Below w.heap.size w w' :=
  (Any.strconv_Atoi_range Tryz.laysAtoi s hlim h ev w hv hev).mono fun e w' ⟨N, h1, _, _, h4⟩ => ⟨⟨_, _, h1⟩, h4⟩
end Go.Proofs
namespace Go.Proofs.YtbfolflejhkehaaGreatDoor
open Go Go.Vc Go.Proofs Go.Dk Go.Sc Go.RowKit

theorem sane_below {w w' : World} (b : Below w.heap.size w w') : Sane w w' := ⟨b.tape, b.os, b.output, b.size, fun k o hk _ => by rw [b.block k (at_lt hk)]; exact hk⟩
theorem keep_below {w w' : World} (b : Below w.heap.size w w') : Keep w.heap.size w.heap w'.heap := ⟨b.size, b.block⟩
/-- a variable that holds an interface value. -/
def IfAt (h : Heap) (g : Nat) : Prop := ∃ ev, cell h ⟨g, 0, none⟩ = some ev ∧ (ev = .nilIface ∨ ∃ te pe, ev = .iface te pe)
theorem IfAt.keep {h h' : Heap} {g : Nat} (k : Keep h.size h h') (h0 : IfAt h g) : IfAt h' g := by
  obtain ⟨ev, h1, h2⟩ := h0
  exact ⟨ev, k.cell_some h1, h2⟩
/-- what the heap holds of the library's variables. -/
structure Lib0 (h : Heap) : Prop where
  pow : ∃ t f, h[5]? = some (.cells (Lib.pow10Tab.map fun z => Value.int .u64 z).toArray t f)
  max : ∃ m, cell h ⟨0, 0, none⟩ = some (.int .i64 m)
  syn : IfAt h 1
  rng : IfAt h 2
  trz : cell h ⟨8, 15, none⟩ = some (.int .u8 4)
theorem Lib0.keep {h h' : Heap} (g : Lib0 h) (k : Keep h.size h h') : Lib0 h' := by
  obtain ⟨⟨t, f, h1⟩, ⟨m, h2⟩, h3, h4, h5⟩ := g
  exact ⟨⟨t, f, k.at h1 (at_lt h1)⟩, ⟨m, k.cell_some h2⟩, h3.keep k, h4.keep k, k.cell_some h5⟩
theorem flat_str : ∀ l : List Str, l.flatMap StrE.enc = l.map Value.string
  | [] => rfl
  | x :: l => by rw [List.flatMap_cons, flat_str l]; rfl
theorem split_spec {h : Heap} (g : Lib0 h) (s : Str) (c : UInt8) (hs : s.size < 4294967281) : HC Tryz.prog 9 #[.string s, .string ⟨#[c]⟩] h fun v h' =>
    Keep h.size h h' ∧ v = .slice (some ⟨h.size, 0, none⟩) (splitS c s).length (splitS c s).length ∧ Vc.Own StrE 9 h.size h' (some ⟨h.size, 0, none⟩) (splitS c s).length (splitS c s).length (splitS c s) := by
  obtain ⟨m, hm⟩ := g.max
  refine ⟨fun w hw => ?_⟩
  subst hw
  refine (Tryz.splitAll s c m w hs hm).mono fun e w' ⟨he, hw'⟩ => ?_
  have hl : Lib.countB s ⟨#[c]⟩ + 1 = (splitS c s).length := by
    rw [← splitB_S, Lib.splitB_all ⟨#[c]⟩ (Nat.le_refl _) 0 _ s rfl]
  rw [hl] at he
  rw [splitB_S] at hw'
  subst hw'
  have hp : (w.alloc (.cells ((splitS c s).map Value.string).toArray 9)).heap = w.heap.push (.cells ((splitS c s).map Value.string).toArray 9 (0, 0)) := rfl
  refine ⟨_, he, Sane.push hp, ?_, rfl, ?_⟩
  · rw [hp]; exact keep_push _ _
  · rw [hp]
    refine ⟨rfl, Nat.le_refl _, .inr ⟨w.heap.size, _, rfl, Nat.le_refl _, push_at _ _, ?_, [], ?_⟩⟩
    · rw [List.size_toArray, List.length_map]; exact (Nat.mul_one _).symm
    · rw [List.append_nil, flat_str]
theorem itoa_spec {h : Heap} (g : Lib0 h) {n : Int} (h0 : -9223372036854775808 ≤ n) (h1 : n ≤ 9223372036854775807) : HC Tryz.prog 19 #[.int .i64 n] h fun v h' => Keep h.size h h' ∧ v = .string (strL (Lib.itoa n)) := by
  obtain ⟨a, b, hb⟩ := g.pow
  refine ⟨fun w hw => ?_⟩
  subst hw
  have htab : Lib.TabIs Tryz.prog w "internal/strconv.uint64pow10" .u64 Lib.pow10Tab := by
    unfold Lib.TabIs World.var?
    have hg : Tryz.prog.globalNamed "internal/strconv.uint64pow10" = some 5 := by kernel_rfl
    rw [hg]
    show (match w.heap[5]? with | some (.cells cs _ _) => some cs | _ => none) = _
    rw [hb]
  refine (Tryz.itoaAll n h0 h1 w htab).mono fun e w' ⟨he, k, os, hw'⟩ => ?_
  subst hw'
  have hz : w.heap.size ≤ (Sort.grow (w.drewN k) os).heap.size := by show _ ≤ (w.heap ++ os).size; simp
  have ho : ∀ q, q < w.heap.size → (Sort.grow (w.drewN k) os).heap[q]? = w.heap[q]? := fun q hq => by
    show (w.heap ++ os)[q]? = _
    rw [Array.getElem?_append_left hq]
  refine ⟨_, he, ⟨rfl, rfl, rfl, hz, fun q o hq _ => ?_⟩, ⟨hz, ho⟩, rfl⟩
  rw [ho q (at_lt hq)]; exact hq
theorem atoi_spec {h : Heap} (g : Lib0 h) (s : Str) (hs : s.size ≤ 100000) : HC Tryz.prog 18 #[.string s] h fun v h' => Keep h.size h h' ∧ ∃ ev, v = .tuple #[.int .i64 (atoiV (bytesL s)), ev] ∧
    (((∃ n, Lib.atoiAll (bytesL s) = .ok n) ∧ ev = .nilIface) ∨ ((∀ n, Lib.atoiAll (bytesL s) ≠ .ok n) ∧ ∃ t p, ev = .iface t p)) := by
  refine ⟨fun w hw => ?_⟩
  subst hw
  cases ha : Lib.atoiAll (bytesL s) with
  | ok n =>
    refine (Tryz.atoiOk s (by omega) n ha w).mono fun e w' ⟨he, hw'⟩ => ?_
    have hv : atoiV (bytesL s) = n := atoiV_ok ha
    rcases hw' with rfl | ⟨t, rfl⟩
    · exact ⟨_, he, Sane.refl _, Keep.refl _ _, _, by rw [hv], .inl ⟨⟨n, rfl⟩, rfl⟩⟩
    · have hz := Lib.bytesWorld_size w 5 t
      have ho : ∀ q, q < w.heap.size → (Lib.bytesWorld w 5 t).heap[q]? = w.heap[q]? := fun q hq => Lib.bytesWorld_at_old w 5 t q hq
      refine ⟨_, he, ⟨rfl, rfl, rfl, by omega, fun q o hq _ => ?_⟩, ⟨by omega, ho⟩, _, by rw [hv], .inl ⟨⟨n, rfl⟩, rfl⟩⟩
      rw [ho q (at_lt hq)]; exact hq
  | range =>
    obtain ⟨ev, h1, h2⟩ := g.rng
    refine (Tryz.atoiRng s (by omega) ha ev w h1 h2).mono fun e w' ⟨⟨t, p, he⟩, hb⟩ => ?_
    have hv : atoiV (bytesL s) = Lib.atoiSat (bytesL s) := by unfold atoiV; rw [ha]
    exact ⟨_, he, sane_below hb, keep_below hb, _, by rw [hv], .inr ⟨fun n hn => (by cases hn), t, p, rfl⟩⟩
  | _ =>
    obtain ⟨ev, h1, h2⟩ := g.syn
    refine (Tryz.atoiSyn s (by omega) (fun v hv => by rw [show Lib.atoiAll s.data.toList = _ from ha] at hv; cases hv) (fun hr => by rw [show Lib.atoiAll s.data.toList = _ from ha] at hr; cases hr) ev w h1 h2).mono fun e w' ⟨⟨t, p, he⟩, hb⟩ => ?_
    have hv : atoiV (bytesL s) = 0 := by unfold atoiV; rw [ha]
    exact ⟨_, he, sane_below hb, keep_below hb, _, by rw [hv], .inr ⟨fun n hn => (by cases hn), t, p, rfl⟩⟩
/-- an error held against nil. -/
theorem reads_err {h : Heap} {X : Operand} : Reads Tryz.prog (eqSem .neq 60 X (.const .nilIface) .nilIface .nilIface) h (.bool false) := by
  have hu : ∃ ms, Tryz.prog.underlying 60 = some (.interface ms) := ⟨_, Tryz.underlying60⟩
  obtain ⟨ms, hu⟩ := hu
  exact (Go.Ce.eqsem_of (r := true) (fun op w => by cases X <;> cases op <;> simp [eqGuard]) (fun w => Go.Ce.eq_run fun d => by simp [Op.equalIn, run_underlying hu]) rfl rfl).2
theorem reads_err1 {h : Heap} {X : Operand} {t : TypeId} {p : Value} : Reads Tryz.prog (eqSem .neq 60 X (.const .nilIface) (.iface t p) .nilIface) h (.bool true) := by
  have hu : ∃ ms, Tryz.prog.underlying 60 = some (.interface ms) := ⟨_, Tryz.underlying60⟩
  obtain ⟨ms, hu⟩ := hu
  exact (Go.Ce.eqsem_of (r := false) (fun op w => by cases op <;> rfl) (fun w => Go.Ce.eq_run fun d => by simp [Op.equalIn, run_underlying hu]) rfl rfl).2
end Go.Proofs.YtbfolflejhkehaaGreatDoor
end

section
set_option linter.unusedVariables false
set_option maxRecDepth 100000
namespace Go.Proofs.YtbfolflejhkehaaGreatDoor
open Go Go.Vc Go.Proofs

theorem vcScRun (s : ByteArray) (h : Heap) (R : Value → Heap → Prop) :
    vcF Tryz.prog Tryz.f6 62 [] [] [.string s] h R =
(br (decide ((↑s.size : Int) > (65536 : Int))) (R (Value.tuple (Array.mk [Value.string (ByteArray.mk (Array.mk [])), Value.int IntKind.i64 (0 : Int), Value.int IntKind.i64 (3 : Int)])) h)
 (HC Tryz.prog (9 : Nat) (Array.mk [Value.string s, Value.string (ByteArray.mk (Array.mk [(10 : UInt8)]))]) h fun (v0 : Value) (h1 : Heap) =>
 ∃ (a2 : Option Addr),
 ∃ (k3 : Nat),
 ∃ (k4 : Nat),
 v0 = Value.slice a2 k3 k4 ∧
 ∃ (I5 : ByteArray → Int → Int → Option Addr → Nat → Nat → Int → Heap → Prop),
 ∃ (I6 : ByteArray → Int → Int → Option Addr → Nat → Nat → Int → Heap → Nat),
 I5 (ByteArray.mk (Array.mk [])) (0 : Int) (0 : Int) none (0 : Nat) (0 : Nat) (0 : Int) h1 ∧
 ∀ (s7 : ByteArray) (n8 n9 : Int) (a10 : Option Addr) (k11 k12 : Nat) (n13 : Int) (h14 : Heap),
 I5 s7 n8 n9 a10 k11 k12 n13 h14 →
 br (decide (n13 < (↑k3 : Int)))
 (∃ (p15 : Addr),
 (a2 = some p15 ∧ (0 : Int) ≤ n13 ∧ n13 < (↑k3 : Int)) ∧
 ∃ (s16 : ByteArray),
 Reads Tryz.prog (Instr.loadAt (9 : Nat) (Value.pointer (some (p15.add (n13.toNat * (1 : Nat)))))) h14 (Value.string s16) ∧
 br (s16.toList == [])
 (I5 s7 n8 n9 a10 k11 k12 (IntKind.i64.wrap (n13 + (1 : Int))) h14 ∧
 I6 s7 n8 n9 a10 k11 k12 (IntKind.i64.wrap (n13 + (1 : Int))) h14 < I6 s7 n8 n9 a10 k11 k12 n13 h14)
 (HC Tryz.prog (10 : Nat) (Array.mk [Value.string s16]) h14 fun (v17 : Value) (h18 : Heap) =>
 ∃ (s19 : ByteArray),
 ∃ (a20 : Option Addr),
 ∃ (k21 : Nat),
 ∃ (k22 : Nat),
 ∃ (a23 : Option Addr),
 ∃ (k24 : Nat),
 ∃ (k25 : Nat),
 ∃ (b26 : Bool),
 v17 = Value.tuple (Array.mk [Value.agg (Array.mk [Value.string s19, Value.slice a20 k21 k22, Value.slice a23 k24 k25]), Value.bool b26]) ∧
 SVC Tryz.prog
 (Instr.storeAt (39 : Nat) (Value.pointer (some (Addr.mk (Array.size h18) (0 : Nat) none)))
 (Value.agg (Array.mk [Value.string s19, Value.slice a20 k21 k22, Value.slice a23 k24 k25])))
 (Array.push h18
 (Obj.cells (Array.mk [Value.string (ByteArray.mk (Array.mk [])), Value.slice none (0 : Nat) (0 : Nat), Value.slice none (0 : Nat) (0 : Nat)])
 (39 : Nat)))
 fun (x27 : Unit) (h28 : Heap) =>
 br (!b26 || (↑k11 : Int) == (512 : Int))
 (R
 (Value.tuple
 (Array.mk
 [Value.string (ByteArray.mk (Array.mk [])), Value.int IntKind.i64 (IntKind.i64.wrap (n13 + (1 : Int))),
 Value.int IntKind.i64 (60 : Int)]))
 h28)
 (∃ (s29 : ByteArray),
 ∃ (a30 : Option Addr),
 ∃ (k31 : Nat),
 ∃ (k32 : Nat),
 ∃ (a33 : Option Addr),
 ∃ (k34 : Nat),
 ∃ (k35 : Nat),
 Reads Tryz.prog (Instr.loadAt (39 : Nat) (Value.pointer (some (Addr.mk (Array.size h18) (0 : Nat) none)))) h28
 (Value.agg (Array.mk [Value.string s29, Value.slice a30 k31 k32, Value.slice a33 k34 k35])) ∧
 SVC Tryz.prog
 (Instr.buildSlice (35 : Nat) (1 : Nat)
 (Array.mk [((0 : Nat), Value.agg (Array.mk [Value.string s29, Value.slice a30 k31 k32, Value.slice a33 k34 k35]))]))
 h28 fun (v36 : Value) (h37 : Heap) =>
 ∃ (a38 : Option Addr),
 ∃ (k39 : Nat),
 ∃ (k40 : Nat),
 v36 = Value.slice a38 k39 k40 ∧
 SVC Tryz.prog
 (Builtin.append_ (Array.mk [(35 : Nat), (35 : Nat)]) (35 : Nat)
 (Array.mk [Value.slice a10 k11 k12, Value.slice a38 k39 k40]))
 h37 fun (v41 : Value) (h42 : Heap) =>
 ∃ (a43 : Option Addr),
 ∃ (k44 : Nat),
 ∃ (k45 : Nat),
 v41 = Value.slice a43 k44 k45 ∧
 I5 s7 n8 n9 a43 k44 k45 (IntKind.i64.wrap (n13 + (1 : Int))) h42 ∧
 I6 s7 n8 n9 a43 k44 k45 (IntKind.i64.wrap (n13 + (1 : Int))) h42 < I6 s7 n8 n9 a10 k11 k12 n13 h14)))
 (HC Tryz.prog (11 : Nat) (Array.mk [Value.int IntKind.i64 (4096 : Int)]) h14 fun (v46 : Value) (h47 : Heap) =>
 ∃ (a48 : Option Addr),
 v46 = Value.pointer a48 ∧
 ∃ (I49 : Int → Heap → Prop),
 ∃ (I50 : Int → Heap → Nat),
 I49 (0 : Int)
 (Array.push h47
 (Obj.cells (Array.mk [Value.pointer none, Value.pointer a48, Value.pointer none, Value.pointer none, Value.slice none (0 : Nat) (0 : Nat)]) (51 : Nat))) ∧
 ∀ (n51 : Int) (h52 : Heap),
 I49 n51 h52 →
 br (decide (n51 < (↑k11 : Int)))
 (∃ (p53 : Addr),
 (a10 = some p53 ∧ (0 : Int) ≤ n51 ∧ n51 < (↑k11 : Int)) ∧
 ∃ (s54 : ByteArray),
 ∃ (a55 : Option Addr),
 ∃ (k56 : Nat),
 ∃ (k57 : Nat),
 ∃ (a58 : Option Addr),
 ∃ (k59 : Nat),
 ∃ (k60 : Nat),
 Reads Tryz.prog (Instr.loadAt (39 : Nat) (Value.pointer (some (p53.add (n51.toNat * (3 : Nat)))))) h52
 (Value.agg (Array.mk [Value.string s54, Value.slice a55 k56 k57, Value.slice a58 k59 k60])) ∧
 SVC Tryz.prog
 (Instr.storeAt (39 : Nat) (Value.pointer (some (Addr.mk (Array.size h52) (0 : Nat) none)))
 (Value.agg (Array.mk [Value.string s54, Value.slice a55 k56 k57, Value.slice a58 k59 k60])))
 (Array.push h52
 (Obj.cells
 (Array.mk [Value.string (ByteArray.mk (Array.mk [])), Value.slice none (0 : Nat) (0 : Nat), Value.slice none (0 : Nat) (0 : Nat)])
 (39 : Nat)))
 fun (x61 : Unit) (h62 : Heap) =>
 ∃ (s63 : ByteArray),
 ∃ (a64 : Option Addr),
 ∃ (k65 : Nat),
 ∃ (k66 : Nat),
 ∃ (a67 : Option Addr),
 ∃ (k68 : Nat),
 ∃ (k69 : Nat),
 Reads Tryz.prog (Instr.loadAt (39 : Nat) (Value.pointer (some (Addr.mk (Array.size h52) (0 : Nat) none)))) h62
 (Value.agg (Array.mk [Value.string s63, Value.slice a64 k65 k66, Value.slice a67 k68 k69])) ∧
 HC Tryz.prog (12 : Nat)
 (Array.mk
 [Value.pointer (some (Addr.mk (Array.size h47) (0 : Nat) none)),
 Value.agg (Array.mk [Value.string s63, Value.slice a64 k65 k66, Value.slice a67 k68 k69])])
 h62 fun (v70 : Value) (h71 : Heap) =>
 v70 = Value.tuple (Array.mk []) ∧
 I49 (IntKind.i64.wrap (n51 + (1 : Int))) h71 ∧ I50 (IntKind.i64.wrap (n51 + (1 : Int))) h71 < I50 n51 h52)
 (∃ (p72 : Addr),
 some (Addr.mk (Array.size h47) (0 : Nat) none) = some p72 ∧
 HC Tryz.prog (13 : Nat) (Array.mk [Value.pointer (some (p72.add (3 : Nat)))]) h52 fun (v73 : Value) (h74 : Heap) =>
 ∃ (s75 : ByteArray),
 v73 = Value.string s75 ∧ R (Value.tuple (Array.mk [Value.string s75, Value.int IntKind.i64 (0 : Int), Value.int IntKind.i64 (0 : Int)])) h74)))) := by kernel_rfl

theorem vcScParse (s : ByteArray) (h : Heap) (R : Value → Heap → Prop) :
    vcF Tryz.prog Tryz.f10 74 [] [] [.string s] h R =
(HC Tryz.prog (9 : Nat) (Array.mk [Value.string s, Value.string (ByteArray.mk (Array.mk [(32 : UInt8)]))])
 (Array.push h (Obj.cells (Array.mk [Value.string (ByteArray.mk (Array.mk [])), Value.slice none (0 : Nat) (0 : Nat), Value.slice none (0 : Nat) (0 : Nat)]) (39 : Nat)))
 fun (v0 : Value) (h1 : Heap) =>
 ∃ (a2 : Option Addr),
 ∃ (k3 : Nat),
 ∃ (k4 : Nat),
 v0 = Value.slice a2 k3 k4 ∧
 ∃ (p5 : Addr),
 (a2 = some p5 ∧ (0 : Int) ≤ (0 : Int) ∧ (0 : Int) < (↑k3 : Int)) ∧
 ∃ (s6 : ByteArray),
 Reads Tryz.prog (Instr.loadAt (9 : Nat) (Value.pointer (some p5))) h1 (Value.string s6) ∧
 SVC Tryz.prog
 (Instr.storeAt (39 : Nat) (Value.pointer (some (Addr.mk (Array.size h1) (0 : Nat) none)))
 (Value.agg (Array.mk [Value.string s6, Value.slice none (0 : Nat) (0 : Nat), Value.slice none (0 : Nat) (0 : Nat)])))
 (Array.push h1 (Obj.cells (Array.mk [Value.string (ByteArray.mk (Array.mk [])), Value.slice none (0 : Nat) (0 : Nat), Value.slice none (0 : Nat) (0 : Nat)]) (39 : Nat)))
 fun (x7 : Unit) (h8 : Heap) =>
 ∃ (s9 : ByteArray),
 Reads Tryz.prog (Instr.loadAt (9 : Nat) (Value.pointer (some (Addr.mk (Array.size h1) (0 : Nat) none)))) h8 (Value.string s9) ∧
 HC Tryz.prog (17 : Nat) (Array.mk [Value.string s9]) h8 fun (v10 : Value) (h11 : Heap) =>
 ∃ (n12 : Int),
 ∃ (n13 : Int),
 ∃ (b14 : Bool),
 v10 = Value.tuple (Array.mk [Value.int IntKind.i64 n12, Value.int IntKind.i64 n13, Value.bool b14]) ∧
 br (!b14 || (↑k3 : Int) != IntKind.i64.wrap (IntKind.i64.wrap ((1 : Int) + n12) + n13))
 (∃ (s15 : ByteArray),
 ∃ (a16 : Option Addr),
 ∃ (k17 : Nat),
 ∃ (k18 : Nat),
 ∃ (a19 : Option Addr),
 ∃ (k20 : Nat),
 ∃ (k21 : Nat),
 Reads Tryz.prog (Instr.loadAt (39 : Nat) (Value.pointer (some (Addr.mk (Array.size h1) (0 : Nat) none)))) h11
 (Value.agg (Array.mk [Value.string s15, Value.slice a16 k17 k18, Value.slice a19 k20 k21])) ∧
 SVC Tryz.prog
 (Instr.storeAt (39 : Nat) (Value.pointer (some (Addr.mk (Array.size h) (0 : Nat) none)))
 (Value.agg (Array.mk [Value.string s15, Value.slice a16 k17 k18, Value.slice a19 k20 k21])))
 h11 fun (x22 : Unit) (h23 : Heap) =>
 ∃ (s24 : ByteArray),
 ∃ (a25 : Option Addr),
 ∃ (k26 : Nat),
 ∃ (k27 : Nat),
 ∃ (a28 : Option Addr),
 ∃ (k29 : Nat),
 ∃ (k30 : Nat),
 Reads Tryz.prog (loadVar (39 : Nat) (Addr.mk (Array.size h) (0 : Nat) none)) h23
 (Value.agg (Array.mk [Value.string s24, Value.slice a25 k26 k27, Value.slice a28 k29 k30])) ∧
 R
 (Value.tuple
 (Array.mk [Value.agg (Array.mk [Value.string s24, Value.slice a25 k26 k27, Value.slice a28 k29 k30]), Value.bool false]))
 h23)
 (((0 : Int) ≤ (1 : Int) ∧ (1 : Int) ≤ IntKind.i64.wrap ((1 : Int) + n12) ∧ IntKind.i64.wrap ((1 : Int) + n12) ≤ (↑k4 : Int) ∧ (↑k4 : Int) ≤ (↑k4 : Int)) ∧
 ∃ (I31 : Bool → Int → Heap → Prop),
 ∃ (I32 : Bool → Int → Heap → Nat),
 I31 false (0 : Int) h11 ∧
 ∀ (b33 : Bool) (n34 : Int) (h35 : Heap),
 I31 b33 n34 h35 →
 br (decide (n34 < (↑((IntKind.i64.wrap ((1 : Int) + n12)).toNat - (1 : Nat)) : Int)))
 (∃ (p36 : Addr),
 (subA a2 (1 : Nat) k4 (1 : Nat) = some p36 ∧ (0 : Int) ≤ n34 ∧ n34 < (↑((IntKind.i64.wrap ((1 : Int) + n12)).toNat - (1 : Nat)) : Int)) ∧
 ∃ (s37 : ByteArray),
 Reads Tryz.prog (Instr.loadAt (9 : Nat) (Value.pointer (some (p36.add (n34.toNat * (1 : Nat)))))) h35 (Value.string s37) ∧
 HC Tryz.prog (18 : Nat) (Array.mk [Value.string s37]) h35 fun (v38 : Value) (h39 : Heap) =>
 ∃ (n40 : Int),
 ∃ (v41 : Value),
 v38 = Value.tuple (Array.mk [Value.int IntKind.i64 n40, v41]) ∧
 ∃ (b42 : Bool),
 Reads Tryz.prog (eqSem BinOp.neq (60 : Nat) (Operand.tmp (52 : Nat)) (Operand.const Value.nilIface) v41 Value.nilIface) h39
 (Value.bool b42) ∧
 br (bif b42 then false else true)
 (HC Tryz.prog (19 : Nat) (Array.mk [Value.int IntKind.i64 n40]) h39 fun (v43 : Value) (h44 : Heap) =>
 ∃ (s45 : ByteArray),
 v43 = Value.string s45 ∧
 br (!s45.toList == s37.toList)
 (∃ (s46 : ByteArray),
 ∃ (a47 : Option Addr),
 ∃ (k48 : Nat),
 ∃ (k49 : Nat),
 ∃ (a50 : Option Addr),
 ∃ (k51 : Nat),
 ∃ (k52 : Nat),
 Reads Tryz.prog (Instr.loadAt (39 : Nat) (Value.pointer (some (Addr.mk (Array.size h1) (0 : Nat) none))))
 h44 (Value.agg (Array.mk [Value.string s46, Value.slice a47 k48 k49, Value.slice a50 k51 k52])) ∧
 SVC Tryz.prog
 (Instr.storeAt (39 : Nat) (Value.pointer (some (Addr.mk (Array.size h) (0 : Nat) none)))
 (Value.agg (Array.mk [Value.string s46, Value.slice a47 k48 k49, Value.slice a50 k51 k52])))
 h44 fun (x53 : Unit) (h54 : Heap) =>
 ∃ (s55 : ByteArray),
 ∃ (a56 : Option Addr),
 ∃ (k57 : Nat),
 ∃ (k58 : Nat),
 ∃ (a59 : Option Addr),
 ∃ (k60 : Nat),
 ∃ (k61 : Nat),
 Reads Tryz.prog (loadVar (39 : Nat) (Addr.mk (Array.size h) (0 : Nat) none)) h54
 (Value.agg
 (Array.mk [Value.string s55, Value.slice a56 k57 k58, Value.slice a59 k60 k61])) ∧
 R
 (Value.tuple
 (Array.mk
 [Value.agg
 (Array.mk
 [Value.string s55, Value.slice a56 k57 k58, Value.slice a59 k60 k61]),
 Value.bool false]))
 h54)
 (∃ (a62 : Option Addr),
 ∃ (k63 : Nat),
 ∃ (k64 : Nat),
 Reads Tryz.prog
 (Instr.loadAt (37 : Nat) (Value.pointer (some ((Addr.mk (Array.size h1) (0 : Nat) none).add (1 : Nat))))) h44
 (Value.slice a62 k63 k64) ∧
 SVC Tryz.prog (Instr.buildSlice (37 : Nat) (1 : Nat) (Array.mk [((0 : Nat), Value.int IntKind.i64 n40)])) h44
 fun (v65 : Value) (h66 : Heap) =>
 ∃ (a67 : Option Addr),
 ∃ (k68 : Nat),
 ∃ (k69 : Nat),
 v65 = Value.slice a67 k68 k69 ∧
 SVC Tryz.prog
 (Builtin.append_ (Array.mk [(37 : Nat), (37 : Nat)]) (37 : Nat)
 (Array.mk [Value.slice a62 k63 k64, Value.slice a67 k68 k69]))
 h66 fun (v70 : Value) (h71 : Heap) =>
 ∃ (a72 : Option Addr),
 ∃ (k73 : Nat),
 ∃ (k74 : Nat),
 v70 = Value.slice a72 k73 k74 ∧
 SVC Tryz.prog
 (Instr.storeAt (37 : Nat)
 (Value.pointer (some ((Addr.mk (Array.size h1) (0 : Nat) none).add (1 : Nat))))
 (Value.slice a72 k73 k74))
 h71 fun (x75 : Unit) (h76 : Heap) =>
 I31 b33 (IntKind.i64.wrap (n34 + (1 : Int))) h76 ∧
 I32 b33 (IntKind.i64.wrap (n34 + (1 : Int))) h76 < I32 b33 n34 h35))
 (∃ (s77 : ByteArray),
 ∃ (a78 : Option Addr),
 ∃ (k79 : Nat),
 ∃ (k80 : Nat),
 ∃ (a81 : Option Addr),
 ∃ (k82 : Nat),
 ∃ (k83 : Nat),
 Reads Tryz.prog (Instr.loadAt (39 : Nat) (Value.pointer (some (Addr.mk (Array.size h1) (0 : Nat) none)))) h39
 (Value.agg (Array.mk [Value.string s77, Value.slice a78 k79 k80, Value.slice a81 k82 k83])) ∧
 SVC Tryz.prog
 (Instr.storeAt (39 : Nat) (Value.pointer (some (Addr.mk (Array.size h) (0 : Nat) none)))
 (Value.agg (Array.mk [Value.string s77, Value.slice a78 k79 k80, Value.slice a81 k82 k83])))
 h39 fun (x84 : Unit) (h85 : Heap) =>
 ∃ (s86 : ByteArray),
 ∃ (a87 : Option Addr),
 ∃ (k88 : Nat),
 ∃ (k89 : Nat),
 ∃ (a90 : Option Addr),
 ∃ (k91 : Nat),
 ∃ (k92 : Nat),
 Reads Tryz.prog (loadVar (39 : Nat) (Addr.mk (Array.size h) (0 : Nat) none)) h85
 (Value.agg
 (Array.mk [Value.string s86, Value.slice a87 k88 k89, Value.slice a90 k91 k92])) ∧
 R
 (Value.tuple
 (Array.mk
 [Value.agg
 (Array.mk [Value.string s86, Value.slice a87 k88 k89, Value.slice a90 k91 k92]),
 Value.bool false]))
 h85))
 (((0 : Int) ≤ IntKind.i64.wrap ((1 : Int) + n12) ∧
 IntKind.i64.wrap ((1 : Int) + n12) ≤ (↑k3 : Int) ∧ (↑k3 : Int) ≤ (↑k4 : Int) ∧ (↑k4 : Int) ≤ (↑k4 : Int)) ∧
 SVC Tryz.prog
 (Instr.storeAt (28 : Nat) (Value.pointer (some ((Addr.mk (Array.size h1) (0 : Nat) none).add (2 : Nat))))
 (Value.slice (subA a2 (IntKind.i64.wrap ((1 : Int) + n12)).toNat k4 (1 : Nat)) (k3 - (IntKind.i64.wrap ((1 : Int) + n12)).toNat)
 (k4 - (IntKind.i64.wrap ((1 : Int) + n12)).toNat)))
 h35 fun (x93 : Unit) (h94 : Heap) =>
 ∃ (s95 : ByteArray),
 ∃ (a96 : Option Addr),
 ∃ (k97 : Nat),
 ∃ (k98 : Nat),
 ∃ (a99 : Option Addr),
 ∃ (k100 : Nat),
 ∃ (k101 : Nat),
 Reads Tryz.prog (Instr.loadAt (39 : Nat) (Value.pointer (some (Addr.mk (Array.size h1) (0 : Nat) none)))) h94
 (Value.agg (Array.mk [Value.string s95, Value.slice a96 k97 k98, Value.slice a99 k100 k101])) ∧
 SVC Tryz.prog
 (Instr.storeAt (39 : Nat) (Value.pointer (some (Addr.mk (Array.size h) (0 : Nat) none)))
 (Value.agg (Array.mk [Value.string s95, Value.slice a96 k97 k98, Value.slice a99 k100 k101])))
 h94 fun (x102 : Unit) (h103 : Heap) =>
 ∃ (s104 : ByteArray),
 ∃ (a105 : Option Addr),
 ∃ (k106 : Nat),
 ∃ (k107 : Nat),
 ∃ (a108 : Option Addr),
 ∃ (k109 : Nat),
 ∃ (k110 : Nat),
 Reads Tryz.prog (loadVar (39 : Nat) (Addr.mk (Array.size h) (0 : Nat) none)) h103
 (Value.agg (Array.mk [Value.string s104, Value.slice a105 k106 k107, Value.slice a108 k109 k110])) ∧
 R
 (Value.tuple
 (Array.mk
 [Value.agg (Array.mk [Value.string s104, Value.slice a105 k106 k107, Value.slice a108 k109 k110]),
 Value.bool true]))
 h103))) := by kernel_rfl

theorem vcScShape (s : ByteArray) (h : Heap) (R : Value → Heap → Prop) :
    vcF Tryz.prog Tryz.f17 34 [] [] [.string s] h R =
(br
 (s.toList ==
 [(108 : UInt8), (105 : UInt8), (115 : UInt8), (116 : UInt8)])
 (R (Value.tuple (Array.mk [Value.int IntKind.i64 (0 : Int), Value.int IntKind.i64 (0 : Int), Value.bool true])) h)
 (br
 (s.toList ==
 [(115 : UInt8), (121 : UInt8), (110 : UInt8), (99 : UInt8)])
 (R (Value.tuple (Array.mk [Value.int IntKind.i64 (0 : Int), Value.int IntKind.i64 (0 : Int), Value.bool true])) h)
 (br
 (s.toList ==
 [(111 : UInt8), (110 : UInt8)])
 (R (Value.tuple (Array.mk [Value.int IntKind.i64 (0 : Int), Value.int IntKind.i64 (0 : Int), Value.bool true])) h)
 (br
 (s.toList ==
 [(115 : UInt8), (116 : UInt8), (101 : UInt8), (112 : UInt8)])
 (R (Value.tuple (Array.mk [Value.int IntKind.i64 (0 : Int), Value.int IntKind.i64 (0 : Int), Value.bool true])) h)
 (br
 (s.toList ==
 [(110 : UInt8), (117 : UInt8), (109 : UInt8)])
 (R (Value.tuple (Array.mk [Value.int IntKind.i64 (0 : Int), Value.int IntKind.i64 (0 : Int), Value.bool true])) h)
 (br
 (s.toList ==
 [(111 : UInt8), (102 : UInt8), (102 : UInt8)])
 (R (Value.tuple (Array.mk [Value.int IntKind.i64 (1 : Int), Value.int IntKind.i64 (0 : Int), Value.bool true])) h)
 (br
 (s.toList ==
 [(114 : UInt8), (117 : UInt8), (110 : UInt8)])
 (R (Value.tuple (Array.mk [Value.int IntKind.i64 (1 : Int), Value.int IntKind.i64 (0 : Int), Value.bool true])) h)
 (br
 (s.toList ==
 [(97 : UInt8), (114 : UInt8), (109 : UInt8)])
 (R (Value.tuple (Array.mk [Value.int IntKind.i64 (2 : Int), Value.int IntKind.i64 (0 : Int), Value.bool true])) h)
 (br
 (s.toList ==
 [(99 : UInt8), (108 : UInt8), (111 : UInt8), (110 : UInt8), (101 : UInt8)])
 (R (Value.tuple (Array.mk [Value.int IntKind.i64 (2 : Int), Value.int IntKind.i64 (0 : Int), Value.bool true])) h)
 (br
 (s.toList ==
 [(111 : UInt8), (112 : UInt8), (101 : UInt8), (110 : UInt8)])
 (R (Value.tuple (Array.mk [Value.int IntKind.i64 (3 : Int), Value.int IntKind.i64 (0 : Int), Value.bool true])) h)
 (br
 (s.toList ==
 [(100 : UInt8), (114 : UInt8), (111 : UInt8), (112 : UInt8)])
 (R (Value.tuple (Array.mk [Value.int IntKind.i64 (0 : Int), Value.int IntKind.i64 (1 : Int), Value.bool true])) h)
 (br
 (s.toList ==
 [(100 : UInt8), (101 : UInt8), (108 : UInt8)])
 (R (Value.tuple (Array.mk [Value.int IntKind.i64 (0 : Int), Value.int IntKind.i64 (2 : Int), Value.bool true])) h)
 (br
 (s.toList ==
 [(109 : UInt8), (101 : UInt8), (114 : UInt8), (103 : UInt8), (101 : UInt8)])
 (R (Value.tuple (Array.mk [Value.int IntKind.i64 (0 : Int), Value.int IntKind.i64 (2 : Int), Value.bool true])) h)
 (br
 (s.toList ==
 [(103 : UInt8), (101 : UInt8), (116 : UInt8)])
 (R (Value.tuple (Array.mk [Value.int IntKind.i64 (0 : Int), Value.int IntKind.i64 (2 : Int), Value.bool true])) h)
 (br
 (s.toList ==
 [(100 : UInt8), (105 : UInt8), (102 : UInt8), (102 : UInt8)])
 (R (Value.tuple (Array.mk [Value.int IntKind.i64 (0 : Int), Value.int IntKind.i64 (2 : Int), Value.bool true])) h)
 (br
 (s.toList ==
 [(112 : UInt8), (117 : UInt8), (116 : UInt8)])
 (R (Value.tuple (Array.mk [Value.int IntKind.i64 (0 : Int), Value.int IntKind.i64 (3 : Int), Value.bool true])) h)
 (br
 (s.toList ==
 [(98 : UInt8), (114 : UInt8), (97 : UInt8), (110 : UInt8), (99 : UInt8), (104 : UInt8)])
 (R (Value.tuple (Array.mk [Value.int IntKind.i64 (1 : Int), Value.int IntKind.i64 (1 : Int), Value.bool true])) h)
 (br
 (s.toList ==
 [(108 : UInt8), (111 : UInt8), (103 : UInt8)])
 (R (Value.tuple (Array.mk [Value.int IntKind.i64 (1 : Int), Value.int IntKind.i64 (1 : Int), Value.bool true])) h)
 (br
 (s.toList ==
 [(114 : UInt8), (101 : UInt8), (97 : UInt8), (100 : UInt8)])
 (R (Value.tuple (Array.mk [Value.int IntKind.i64 (1 : Int), Value.int IntKind.i64 (2 : Int), Value.bool true])) h)
 (R (Value.tuple (Array.mk [Value.int IntKind.i64 (0 : Int), Value.int IntKind.i64 (0 : Int), Value.bool false])) h)))))))))))))))))))) := by kernel_rfl

theorem vc25Split (s : ByteArray) (c : Int) (h : Heap) (R : Value → Heap → Prop) :
    vcF Tryz.prog Tryz.f14 35 [] [] [.string s, .int .u8 c] h R =
(∃ (I0 : Option Addr → Nat → Nat → Int → Int → Heap → Prop),
 ∃ (I1 : Option Addr → Nat → Nat → Int → Int → Heap → Nat),
 I0 none (0 : Nat) (0 : Nat) (0 : Int) (0 : Int) h ∧
 ∀ (a2 : Option Addr) (k3 k4 : Nat) (n5 n6 : Int) (h7 : Heap),
 I0 a2 k3 k4 n5 n6 h7 →
 br (decide (n6 ≤ (↑s.size : Int)))
 (((!n6 == (↑s.size : Int)) = true → (0 : Int) ≤ n6 ∧ n6 < (↑s.size : Int)) ∧
 br (n6 == (↑s.size : Int) || byteAt s n6 == c)
 (((0 : Int) ≤ n5 ∧ n5 ≤ n6 ∧ n6 ≤ (↑s.size : Int)) ∧
 SVC Tryz.prog (Instr.buildSlice (28 : Nat) (1 : Nat) (Array.mk [((0 : Nat), Value.string (s.extract n5.toNat n6.toNat))])) h7 fun (v8 : Value) (h9 : Heap) =>
 ∃ (a10 : Option Addr),
 ∃ (k11 : Nat),
 ∃ (k12 : Nat),
 v8 = Value.slice a10 k11 k12 ∧
 SVC Tryz.prog (Builtin.append_ (Array.mk [(28 : Nat), (28 : Nat)]) (28 : Nat) (Array.mk [Value.slice a2 k3 k4, Value.slice a10 k11 k12])) h9
 fun (v13 : Value) (h14 : Heap) =>
 ∃ (a15 : Option Addr),
 ∃ (k16 : Nat),
 ∃ (k17 : Nat),
 v13 = Value.slice a15 k16 k17 ∧
 I0 a15 k16 k17 (IntKind.i64.wrap (n6 + (1 : Int))) (IntKind.i64.wrap (n6 + (1 : Int))) h14 ∧
 I1 a15 k16 k17 (IntKind.i64.wrap (n6 + (1 : Int))) (IntKind.i64.wrap (n6 + (1 : Int))) h14 < I1 a2 k3 k4 n5 n6 h7)
 (I0 a2 k3 k4 n5 (IntKind.i64.wrap (n6 + (1 : Int))) h7 ∧ I1 a2 k3 k4 n5 (IntKind.i64.wrap (n6 + (1 : Int))) h7 < I1 a2 k3 k4 n5 n6 h7))
 (R (Value.slice a2 k3 k4) h7)) := by kernel_rfl

theorem vc25Shape (s : ByteArray) (h : Heap) (R : Value → Heap → Prop) :
    vcF Tryz.prog Tryz.f43 33 [] [] [.string s] h R =
(br
 (s.toList ==
 [(108 : UInt8), (105 : UInt8), (115 : UInt8), (116 : UInt8)])
 (R (Value.tuple (Array.mk [Value.int IntKind.i64 (0 : Int), Value.int IntKind.i64 (0 : Int)])) h)
 (br
 (s.toList ==
 [(115 : UInt8), (121 : UInt8), (110 : UInt8), (99 : UInt8)])
 (R (Value.tuple (Array.mk [Value.int IntKind.i64 (0 : Int), Value.int IntKind.i64 (0 : Int)])) h)
 (br
 (s.toList ==
 [(111 : UInt8), (110 : UInt8)])
 (R (Value.tuple (Array.mk [Value.int IntKind.i64 (0 : Int), Value.int IntKind.i64 (0 : Int)])) h)
 (br
 (s.toList ==
 [(115 : UInt8), (116 : UInt8), (101 : UInt8), (112 : UInt8)])
 (R (Value.tuple (Array.mk [Value.int IntKind.i64 (0 : Int), Value.int IntKind.i64 (0 : Int)])) h)
 (br
 (s.toList ==
 [(110 : UInt8), (117 : UInt8), (109 : UInt8)])
 (R (Value.tuple (Array.mk [Value.int IntKind.i64 (0 : Int), Value.int IntKind.i64 (0 : Int)])) h)
 (br
 (s.toList ==
 [(111 : UInt8), (102 : UInt8), (102 : UInt8)])
 (R (Value.tuple (Array.mk [Value.int IntKind.i64 (1 : Int), Value.int IntKind.i64 (0 : Int)])) h)
 (br
 (s.toList ==
 [(114 : UInt8), (117 : UInt8), (110 : UInt8)])
 (R (Value.tuple (Array.mk [Value.int IntKind.i64 (1 : Int), Value.int IntKind.i64 (0 : Int)])) h)
 (br
 (s.toList ==
 [(97 : UInt8), (114 : UInt8), (109 : UInt8)])
 (R (Value.tuple (Array.mk [Value.int IntKind.i64 (2 : Int), Value.int IntKind.i64 (0 : Int)])) h)
 (br
 (s.toList ==
 [(99 : UInt8), (108 : UInt8), (111 : UInt8), (110 : UInt8), (101 : UInt8)])
 (R (Value.tuple (Array.mk [Value.int IntKind.i64 (2 : Int), Value.int IntKind.i64 (0 : Int)])) h)
 (br
 (s.toList ==
 [(111 : UInt8), (112 : UInt8), (101 : UInt8), (110 : UInt8)])
 (R (Value.tuple (Array.mk [Value.int IntKind.i64 (3 : Int), Value.int IntKind.i64 (0 : Int)])) h)
 (br
 (s.toList ==
 [(100 : UInt8), (114 : UInt8), (111 : UInt8), (112 : UInt8)])
 (R (Value.tuple (Array.mk [Value.int IntKind.i64 (0 : Int), Value.int IntKind.i64 (1 : Int)])) h)
 (br
 (s.toList ==
 [(100 : UInt8), (101 : UInt8), (108 : UInt8)])
 (R (Value.tuple (Array.mk [Value.int IntKind.i64 (0 : Int), Value.int IntKind.i64 (2 : Int)])) h)
 (br
 (s.toList ==
 [(109 : UInt8), (101 : UInt8), (114 : UInt8), (103 : UInt8), (101 : UInt8)])
 (R (Value.tuple (Array.mk [Value.int IntKind.i64 (0 : Int), Value.int IntKind.i64 (2 : Int)])) h)
 (br
 (s.toList ==
 [(103 : UInt8), (101 : UInt8), (116 : UInt8)])
 (R (Value.tuple (Array.mk [Value.int IntKind.i64 (0 : Int), Value.int IntKind.i64 (2 : Int)])) h)
 (br
 (s.toList ==
 [(100 : UInt8), (105 : UInt8), (102 : UInt8), (102 : UInt8)])
 (R (Value.tuple (Array.mk [Value.int IntKind.i64 (0 : Int), Value.int IntKind.i64 (2 : Int)])) h)
 (br
 (s.toList ==
 [(112 : UInt8), (117 : UInt8), (116 : UInt8)])
 (R (Value.tuple (Array.mk [Value.int IntKind.i64 (0 : Int), Value.int IntKind.i64 (3 : Int)])) h)
 (br
 (s.toList ==
 [(98 : UInt8), (114 : UInt8), (97 : UInt8), (110 : UInt8), (99 : UInt8), (104 : UInt8)])
 (R (Value.tuple (Array.mk [Value.int IntKind.i64 (1 : Int), Value.int IntKind.i64 (1 : Int)])) h)
 (br
 (s.toList ==
 [(108 : UInt8), (111 : UInt8), (103 : UInt8)])
 (R (Value.tuple (Array.mk [Value.int IntKind.i64 (1 : Int), Value.int IntKind.i64 (1 : Int)])) h)
 (br
 (s.toList ==
 [(114 : UInt8), (101 : UInt8), (97 : UInt8), (100 : UInt8)])
 (R (Value.tuple (Array.mk [Value.int IntKind.i64 (1 : Int), Value.int IntKind.i64 (2 : Int)])) h)
 (R (Value.tuple (Array.mk [Value.int IntKind.i64 (-1 : Int), Value.int IntKind.i64 (0 : Int)])) h)))))))))))))))))))) := by kernel_rfl

theorem vc25Command (s : ByteArray) (h : Heap) (R : Value → Heap → Prop) :
    vcF Tryz.prog Tryz.f15 49 [] [] [.string s] h R =
(HC Tryz.prog (14 : Nat) (Array.mk [Value.string s, Value.int IntKind.u8 (32 : Int)]) h fun (v0 : Value) (h1 : Heap) =>
 ∃ (a2 : Option Addr),
 ∃ (k3 : Nat),
 ∃ (k4 : Nat),
 v0 = Value.slice a2 k3 k4 ∧
 ∃ (p5 : Addr),
 (a2 = some p5 ∧ (0 : Int) ≤ (0 : Int) ∧ (0 : Int) < (↑k3 : Int)) ∧
 ∃ (s6 : ByteArray),
 Reads Tryz.prog (Instr.loadAt (9 : Nat) (Value.pointer (some p5))) h1 (Value.string s6) ∧
 HC Tryz.prog (43 : Nat) (Array.mk [Value.string s6]) h1 fun (v7 : Value) (h8 : Heap) =>
 ∃ (n9 : Int),
 ∃ (n10 : Int),
 v7 = Value.tuple (Array.mk [Value.int IntKind.i64 n9, Value.int IntKind.i64 n10]) ∧
 br (decide (n9 < (0 : Int)) || (↑k3 : Int) != IntKind.i64.wrap (IntKind.i64.wrap ((1 : Int) + n9) + n10)) (R (Value.bool false) h8)
 (∃ (I11 : Bool → Int → Heap → Prop),
 ∃ (I12 : Bool → Int → Heap → Nat),
 I11 false (1 : Int) h8 ∧
 ∀ (b13 : Bool) (n14 : Int) (h15 : Heap),
 I11 b13 n14 h15 →
 br (decide (n14 ≤ n9))
 (∃ (p16 : Addr),
 (a2 = some p16 ∧ (0 : Int) ≤ n14 ∧ n14 < (↑k3 : Int)) ∧
 ∃ (s17 : ByteArray),
 Reads Tryz.prog (Instr.loadAt (9 : Nat) (Value.pointer (some (p16.add (n14.toNat * (1 : Nat)))))) h15 (Value.string s17) ∧
 HC Tryz.prog (18 : Nat) (Array.mk [Value.string s17]) h15 fun (v18 : Value) (h19 : Heap) =>
 ∃ (n20 : Int),
 ∃ (v21 : Value),
 v18 = Value.tuple (Array.mk [Value.int IntKind.i64 n20, v21]) ∧
 ∃ (I22 : Heap → Prop),
 I22 h19 ∧
 HC Tryz.prog (19 : Nat) (Array.mk [Value.int IntKind.i64 n20]) h19 fun (v23 : Value) (h24 : Heap) =>
 ∃ (s25 : ByteArray),
 v23 = Value.string s25 ∧
 I22 h24 ∧
 ∃ (p26 : Addr),
 (a2 = some p26 ∧ (0 : Int) ≤ n14 ∧ n14 < (↑k3 : Int)) ∧
 ∃ (s27 : ByteArray),
 (∀ (h28 : Heap),
 I22 h28 →
 Reads Tryz.prog (Instr.loadAt (9 : Nat) (Value.pointer (some (p26.add (n14.toNat * (1 : Nat)))))) h28
 (Value.string s27)) ∧
 br (!s25.toList == s27.toList) (R (Value.bool false) h24)
 (I11 b13 (IntKind.i64.wrap (n14 + (1 : Int))) h24 ∧ I12 b13 (IntKind.i64.wrap (n14 + (1 : Int))) h24 < I12 b13 n14 h15))
 (R (Value.bool true) h15))) := by kernel_rfl

theorem vc25Fault (s : ByteArray) (h : Heap) (R : Value → Heap → Prop) :
    vcF Tryz.prog Tryz.f8 28 [] [] [.string s] h R =
(HC Tryz.prog (14 : Nat) (Array.mk [Value.string s, Value.int IntKind.u8 (10 : Int)]) h fun (v0 : Value) (h1 : Heap) =>
 ∃ (a2 : Option Addr),
 ∃ (k3 : Nat),
 ∃ (k4 : Nat),
 v0 = Value.slice a2 k3 k4 ∧
 ∃ (I5 : Int → Int → Int → Heap → Prop),
 ∃ (I6 : Int → Int → Int → Heap → Nat),
 I5 (0 : Int) (0 : Int) (0 : Int) h1 ∧
 ∀ (n7 n8 n9 : Int) (h10 : Heap),
 I5 n7 n8 n9 h10 →
 br (decide (n9 < (↑k3 : Int)))
 (∃ (p11 : Addr),
 (a2 = some p11 ∧ (0 : Int) ≤ n9 ∧ n9 < (↑k3 : Int)) ∧
 ∃ (s12 : ByteArray),
 Reads Tryz.prog (Instr.loadAt (9 : Nat) (Value.pointer (some (p11.add (n9.toNat * (1 : Nat)))))) h10 (Value.string s12) ∧
 br (s12.toList == []) (I5 n7 n8 (IntKind.i64.wrap (n9 + (1 : Int))) h10 ∧ I6 n7 n8 (IntKind.i64.wrap (n9 + (1 : Int))) h10 < I6 n7 n8 n9 h10)
 (HC Tryz.prog (15 : Nat) (Array.mk [Value.string s12]) h10 fun (v13 : Value) (h14 : Heap) =>
 ∃ (b15 : Bool),
 v13 = Value.bool b15 ∧
 br (!b15 || n8 == (512 : Int)) (R (Value.int IntKind.i64 (IntKind.i64.wrap (n9 + (1 : Int)))) h14)
 (I5 n7 (IntKind.i64.wrap (n8 + (1 : Int))) (IntKind.i64.wrap (n9 + (1 : Int))) h14 ∧
 I6 n7 (IntKind.i64.wrap (n8 + (1 : Int))) (IntKind.i64.wrap (n9 + (1 : Int))) h14 < I6 n7 n8 n9 h10)))
 (R (Value.int IntKind.i64 (0 : Int)) h10)) := by kernel_rfl

theorem vc25Joined (A : Option Addr) (n c : Nat) (h : Heap) (R : Value → Heap → Prop) :
    vcF Tryz.prog Tryz.f7 43 [] [] [.slice A n c] h R =
(br (decide ((↑n : Int) > (40 : Int))) (R (Value.tuple (Array.mk [Value.string (ByteArray.mk (Array.mk [])), Value.bool false])) h)
 (∃ (I0 : ByteArray → Bool → ByteArray → Int → Heap → Prop),
 ∃ (I1 : ByteArray → Bool → ByteArray → Int → Heap → Nat),
 I0 (ByteArray.mk (Array.mk [])) false (ByteArray.mk (Array.mk [])) (0 : Int) h ∧
 ∀ (s2 : ByteArray) (b3 : Bool) (s4 : ByteArray) (n5 : Int) (h6 : Heap),
 I0 s2 b3 s4 n5 h6 →
 br (decide (n5 < (↑n : Int)))
 (∃ (p7 : Addr),
 (A = some p7 ∧ (0 : Int) ≤ n5 ∧ n5 < (↑n : Int)) ∧
 ∃ (s8 : ByteArray),
 Reads Tryz.prog (Instr.loadAt (9 : Nat) (Value.pointer (some (p7.add (n5.toNat * (1 : Nat)))))) h6 (Value.string s8) ∧
 br (decide (IntKind.i64.wrap ((↑s4.size : Int) + (↑s8.size : Int)) > (4096 : Int))) (R (Value.tuple (Array.mk [Value.string (ByteArray.mk (Array.mk [])), Value.bool false])) h6)
 (∃ (I9 : ByteArray → Bool → Int → Heap → Prop),
 ∃ (I10 : ByteArray → Bool → Int → Heap → Nat),
 I9 s2 b3 (0 : Int) h6 ∧
 ∀ (s11 : ByteArray) (b12 : Bool) (n13 : Int) (h14 : Heap),
 I9 s11 b12 n13 h14 →
 br (decide (n13 < (↑s8.size : Int)))
 (((0 : Int) ≤ n13 ∧ n13 < (↑s8.size : Int)) ∧
 br (byteAt s8 n13 == (10 : Int)) (R (Value.tuple (Array.mk [Value.string (ByteArray.mk (Array.mk [])), Value.bool false])) h14)
 (I9 s11 b12 (IntKind.i64.wrap (n13 + (1 : Int))) h14 ∧ I10 s11 b12 (IntKind.i64.wrap (n13 + (1 : Int))) h14 < I10 s11 b12 n13 h14))
 (br (decide (n5 > (0 : Int)))
 ((↑(s4.size + (1 : Nat)) : Int) ≤ IntKind.i64.max ∧
 (↑((s4 ++ ByteArray.mk (Array.mk [(10 : UInt8)])).size + s8.size) : Int) ≤ IntKind.i64.max ∧
 I0 s11 b12 (s4 ++ ByteArray.mk (Array.mk [(10 : UInt8)]) ++ s8) (IntKind.i64.wrap (n5 + (1 : Int))) h14 ∧
 I1 s11 b12 (s4 ++ ByteArray.mk (Array.mk [(10 : UInt8)]) ++ s8) (IntKind.i64.wrap (n5 + (1 : Int))) h14 < I1 s2 b3 s4 n5 h6)
 ((↑(s4.size + s8.size) : Int) ≤ IntKind.i64.max ∧
 I0 s11 b12 (s4 ++ s8) (IntKind.i64.wrap (n5 + (1 : Int))) h14 ∧ I1 s11 b12 (s4 ++ s8) (IntKind.i64.wrap (n5 + (1 : Int))) h14 < I1 s2 b3 s4 n5 h6))))
 (R (Value.tuple (Array.mk [Value.string s4, Value.bool true])) h6))) := by kernel_rfl

theorem vc25Limits (a b : Int) (h : Heap) (R : Value → Heap → Prop) :
    vcF Tryz.prog Tryz.f3 105 [] [] [.int .i64 a, .int .i64 b] h R =
(HC Tryz.prog (5 : Nat) (Array.mk []) h fun (v0 : Value) (h1 : Heap) =>
 ∃ (b2 : Bool),
 v0 = Value.bool b2 ∧
 br (!b2) (R (Value.bool false) h1)
 (br (decide (a < (1 : Int)) || decide (a > (70000 : Int)) || decide (b < (0 : Int)) || decide (b > (600 : Int))) (R (Value.bool true) h1)
 (SVC Tryz.prog (Instr.makeSlice (23 : Nat) (Value.int IntKind.i64 a) (Value.int IntKind.i64 a)) h1 fun (v3 : Value) (h4 : Heap) =>
 ∃ (a5 : Option Addr),
 ∃ (k6 : Nat),
 ∃ (k7 : Nat),
 v3 = Value.slice a5 k6 k7 ∧
 ∃ (I8 : Int → Heap → Prop),
 ∃ (I9 : Int → Heap → Nat),
 I8 (0 : Int) h4 ∧
 ∀ (n10 : Int) (h11 : Heap),
 I8 n10 h11 →
 br (decide (n10 < (↑k6 : Int)))
 (∃ (p12 : Addr),
 (a5 = some p12 ∧ (0 : Int) ≤ n10 ∧ n10 < (↑k6 : Int)) ∧
 SVC Tryz.prog (Instr.storeAt (5 : Nat) (Value.pointer (some (p12.add (n10.toNat * (1 : Nat))))) (Value.int IntKind.u8 (10 : Int))) h11
 fun (x13 : Unit) (h14 : Heap) => I8 (IntKind.i64.wrap (n10 + (1 : Int))) h14 ∧ I9 (IntKind.i64.wrap (n10 + (1 : Int))) h14 < I9 n10 h11)
 (∃ (s15 : ByteArray),
 Reads Tryz.prog (convert (23 : Nat) (9 : Nat) (Value.slice a5 k6 k7)) h11 (Value.string s15) ∧
 HC Tryz.prog (6 : Nat) (Array.mk [Value.string s15]) h11 fun (v16 : Value) (h17 : Heap) =>
 ∃ (s18 : ByteArray),
 ∃ (n19 : Int),
 ∃ (n20 : Int),
 v16 = Value.tuple (Array.mk [Value.string s18, Value.int IntKind.i64 n19, Value.int IntKind.i64 n20]) ∧
 ∃ (b21 : Bool),
 ((!(!s18.toList == [] || n19 != (0 : Int))) = true →
 Reads Tryz.prog
 (eqSem BinOp.neq (4 : Nat) (Operand.tmp (54 : Nat)) (Operand.tmp (56 : Nat)) (Value.bool (n20 == (3 : Int)))
 (Value.bool (decide (a > (65536 : Int)))))
 h17 (Value.bool b21)) ∧
 br (!s18.toList == [] || n19 != (0 : Int) || b21 || n20 != (0 : Int) && n20 != (3 : Int)) (R (Value.bool false) h17)
 (∃ (I22 : ByteArray → Int → Heap → Prop),
 ∃ (I23 : ByteArray → Int → Heap → Nat),
 I22 (ByteArray.mk (Array.mk [])) (0 : Int) h17 ∧
 ∀ (s24 : ByteArray) (n25 : Int) (h26 : Heap),
 I22 s24 n25 h26 →
 br (decide (n25 < b))
 ((↑(s24.size + (4 : Nat)) : Int) ≤ IntKind.i64.max ∧
 I22 (s24 ++ ByteArray.mk (Array.mk [(10 : UInt8), (110 : UInt8), (117 : UInt8), (109 : UInt8)])) (IntKind.i64.wrap (n25 + (1 : Int)))
 h26 ∧
 I23 (s24 ++ ByteArray.mk (Array.mk [(10 : UInt8), (110 : UInt8), (117 : UInt8), (109 : UInt8)]))
 (IntKind.i64.wrap (n25 + (1 : Int))) h26 <
 I23 s24 n25 h26)
 (HC Tryz.prog (6 : Nat) (Array.mk [Value.string s24]) h26 fun (v27 : Value) (h28 : Heap) =>
 ∃ (s29 : ByteArray),
 ∃ (n30 : Int),
 ∃ (n31 : Int),
 v27 = Value.tuple (Array.mk [Value.string s29, Value.int IntKind.i64 n30, Value.int IntKind.i64 n31]) ∧
 br (decide (b > (512 : Int))) (R (Value.bool (s29.toList == [] && n30 == (514 : Int) && n31 == (60 : Int))) h28)
 (R (Value.bool ((↑s29.size : Int) == IntKind.i64.wrap ((2 : Int) * b) && n30 == (0 : Int) && n31 == (0 : Int))) h28))))))) := by kernel_rfl

theorem vc25Faults (A : Option Addr) (n c : Nat) (a b : Int) (h : Heap) (R : Value → Heap → Prop) :
    vcF Tryz.prog Tryz.f4 87 [] [] [.slice A n c, .int .i64 a, .int .i64 b] h R =
(HC Tryz.prog (5 : Nat) (Array.mk []) h fun (v0 : Value) (h1 : Heap) =>
 ∃ (b2 : Bool),
 v0 = Value.bool b2 ∧
 br (!b2) (R (Value.bool false) h1)
 (HC Tryz.prog (7 : Nat) (Array.mk [Value.slice A n c]) h1 fun (v3 : Value) (h4 : Heap) =>
 ∃ (s5 : ByteArray),
 ∃ (b6 : Bool),
 v3 = Value.tuple (Array.mk [Value.string s5, Value.bool b6]) ∧
 br (bif !b6 || decide (a < (0 : Int)) || decide (a > (↑n : Int)) then false else true)
 (HC Tryz.prog (8 : Nat) (Array.mk [Value.string s5]) h4 fun (v7 : Value) (h8 : Heap) =>
 ∃ (n9 : Int),
 v7 = Value.int IntKind.i64 n9 ∧
 br (decide (n9 > (0 : Int))) (R (Value.bool true) h8)
 (∃ (h10 : Array Value),
 Blt Tryz.prog (32 : Nat)
 [((0 : Nat), Value.string (ByteArray.mk (Array.mk [(119 : UInt8), (104 : UInt8), (97 : UInt8), (116 : UInt8)]))),
 ((1 : Nat), Value.string (ByteArray.mk (Array.mk [(32 : UInt8)]))),
 ((2 : Nat), Value.string (ByteArray.mk (Array.mk [(110 : UInt8), (117 : UInt8), (109 : UInt8), (32 : UInt8)]))),
 ((3 : Nat), Value.string (ByteArray.mk (Array.mk [(114 : UInt8), (117 : UInt8), (110 : UInt8)]))),
 ((4 : Nat), Value.string (ByteArray.mk (Array.mk [(97 : UInt8), (114 : UInt8), (109 : UInt8), (32 : UInt8), (49 : UInt8)]))),
 ((5 : Nat),
 Value.string
 (ByteArray.mk
 (Array.mk
 [(108 : UInt8), (111 : UInt8), (103 : UInt8), (32 : UInt8), (48 : UInt8), (49 : UInt8), (32 : UInt8), (109 : UInt8), (97 : UInt8), (105 : UInt8),
 (110 : UInt8)]))),
 ((6 : Nat),
 Value.string
 (ByteArray.mk
 (Array.mk [(112 : UInt8), (117 : UInt8), (116 : UInt8), (32 : UInt8), (109 : UInt8), (97 : UInt8), (105 : UInt8), (110 : UInt8), (32 : UInt8), (97 : UInt8)]))),
 ((7 : Nat),
 Value.string
 (ByteArray.mk
 (Array.mk
 [(114 : UInt8), (117 : UInt8), (110 : UInt8), (32 : UInt8), (57 : UInt8), (50 : UInt8), (50 : UInt8), (51 : UInt8), (51 : UInt8), (55 : UInt8), (50 : UInt8),
 (48 : UInt8), (51 : UInt8), (54 : UInt8), (56 : UInt8), (53 : UInt8), (52 : UInt8), (55 : UInt8), (55 : UInt8), (53 : UInt8), (56 : UInt8), (48 : UInt8),
 (56 : UInt8)])))]
 h10 ∧
 ∃ (h11 : Array Value),
 IsZ Tryz.prog (32 : Nat) h11 ∧
 SVC Tryz.prog (Instr.storeAt (32 : Nat) (Value.pointer (some (Addr.mk (Array.size h8) (0 : Nat) none))) (Value.agg h10)) (Array.push h8 (Obj.cells h11 (32 : Nat)))
 fun (x12 : Unit) (h13 : Heap) =>
 ∃ (I14 : ByteArray → Int → Heap → Prop),
 ∃ (I15 : ByteArray → Int → Heap → Nat),
 I14 (ByteArray.mk (Array.mk [])) (0 : Int) h13 ∧
 ∀ (s16 : ByteArray) (n17 : Int) (h18 : Heap),
 I14 s16 n17 h18 →
 br (decide (n17 ≤ (↑n : Int)))
 (br (n17 == a)
 ((8 : Int) ≠ (0 : Int) ∧
 ((0 : Int) ≤ IntKind.i64.wrap ((IntKind.u64.wrap b).tmod (8 : Int)) ∧ IntKind.i64.wrap ((IntKind.u64.wrap b).tmod (8 : Int)) < (↑(8 : Nat) : Int)) ∧
 ∃ (s19 : ByteArray),
 Reads Tryz.prog
 (Instr.loadAt (9 : Nat)
 (Value.pointer
 (some ((Addr.mk (Array.size h8) (0 : Nat) none).add ((IntKind.i64.wrap ((IntKind.u64.wrap b).tmod (8 : Int))).toNat * (1 : Nat))))))
 h18 (Value.string s19) ∧
 (↑(s16.size + s19.size) : Int) ≤ IntKind.i64.max ∧
 (↑((s16 ++ s19).size + (1 : Nat)) : Int) ≤ IntKind.i64.max ∧
 br (decide (n17 < (↑n : Int)))
 (∃ (p20 : Addr),
 (A = some p20 ∧ (0 : Int) ≤ n17 ∧ n17 < (↑n : Int)) ∧
 ∃ (s21 : ByteArray),
 Reads Tryz.prog (Instr.loadAt (9 : Nat) (Value.pointer (some (p20.add (n17.toNat * (1 : Nat)))))) h18 (Value.string s21) ∧
 (↑((s16 ++ s19 ++ ByteArray.mk (Array.mk [(10 : UInt8)])).size + s21.size) : Int) ≤ IntKind.i64.max ∧
 (↑((s16 ++ s19 ++ ByteArray.mk (Array.mk [(10 : UInt8)]) ++ s21).size + (1 : Nat)) : Int) ≤ IntKind.i64.max ∧
 I14 (s16 ++ s19 ++ ByteArray.mk (Array.mk [(10 : UInt8)]) ++ s21 ++ ByteArray.mk (Array.mk [(10 : UInt8)]))
 (IntKind.i64.wrap (n17 + (1 : Int))) h18 ∧
 I15 (s16 ++ s19 ++ ByteArray.mk (Array.mk [(10 : UInt8)]) ++ s21 ++ ByteArray.mk (Array.mk [(10 : UInt8)]))
 (IntKind.i64.wrap (n17 + (1 : Int))) h18 <
 I15 s16 n17 h18)
 (I14 (s16 ++ s19 ++ ByteArray.mk (Array.mk [(10 : UInt8)])) (IntKind.i64.wrap (n17 + (1 : Int))) h18 ∧
 I15 (s16 ++ s19 ++ ByteArray.mk (Array.mk [(10 : UInt8)])) (IntKind.i64.wrap (n17 + (1 : Int))) h18 < I15 s16 n17 h18))
 (br (decide (n17 < (↑n : Int)))
 (∃ (p22 : Addr),
 (A = some p22 ∧ (0 : Int) ≤ n17 ∧ n17 < (↑n : Int)) ∧
 ∃ (s23 : ByteArray),
 Reads Tryz.prog (Instr.loadAt (9 : Nat) (Value.pointer (some (p22.add (n17.toNat * (1 : Nat)))))) h18 (Value.string s23) ∧
 (↑(s16.size + s23.size) : Int) ≤ IntKind.i64.max ∧
 (↑((s16 ++ s23).size + (1 : Nat)) : Int) ≤ IntKind.i64.max ∧
 I14 (s16 ++ s23 ++ ByteArray.mk (Array.mk [(10 : UInt8)])) (IntKind.i64.wrap (n17 + (1 : Int))) h18 ∧
 I15 (s16 ++ s23 ++ ByteArray.mk (Array.mk [(10 : UInt8)])) (IntKind.i64.wrap (n17 + (1 : Int))) h18 < I15 s16 n17 h18)
 (I14 s16 (IntKind.i64.wrap (n17 + (1 : Int))) h18 ∧ I15 s16 (IntKind.i64.wrap (n17 + (1 : Int))) h18 < I15 s16 n17 h18)))
 (HC Tryz.prog (6 : Nat) (Array.mk [Value.string s16]) h18 fun (v24 : Value) (h25 : Heap) =>
 ∃ (s26 : ByteArray),
 ∃ (n27 : Int),
 ∃ (n28 : Int),
 v24 = Value.tuple (Array.mk [Value.string s26, Value.int IntKind.i64 n27, Value.int IntKind.i64 n28]) ∧
 R (Value.bool (s26.toList == [] && n27 == IntKind.i64.wrap (a + (1 : Int)) && n28 == (60 : Int))) h25)))
 (R (Value.bool true) h4))) := by kernel_rfl
end Go.Proofs.YtbfolflejhkehaaGreatDoor
end

section
set_option linter.unusedVariables false
set_option linter.unusedSimpArgs false
set_option maxRecDepth 100000
namespace Go.Proofs.YtbfolflejhkehaaGreatDoor
open Go Go.Vc Go.Proofs Go.Dk Go.Sc

theorem reads_vag {P : Program} {t : TypeId} {n : Nat} {h : Heap} {p : Addr} {cs : List Value} (ht : agT P t n = true) (hn : cs.length = n) (hc : ∀ j v, cs[j]? = some v → cell h (p.add j) = some v) : Reads P (loadVar t p) h (.agg cs.toArray) := by
  obtain ⟨h1, h2⟩ := agT_spec ht
  refine ⟨fun w hw => ?_⟩
  subst hw
  simp only [loadVar, Sem.run_bind, Sem.run_pure, Result.andThen_ok, h1, if_true, Go.Vc.run_szOf h2, Go.Vc.run_loadCells hn hc]
theorem imax : IntKind.i64.max = 9223372036854775807 := by decide
def shV : Option (Nat × Nat) → Value
  | some (k, t) => .tuple #[.int .i64 k, .int .i64 t, .bool true]
  | none => .tuple #[.int .i64 0, .int .i64 0, .bool false]
theorem shape_spec {h : Heap} (s : Str) : HC Tryz.prog 17 #[.string s] h fun v h' => h' = h ∧ v = shV (shapeP (bytesL s)) := by
  refine HC_of_vc (args := [.string s]) (base := 34) (cuts := []) (bigs := []) hm Tryz.func17 ?_
  rw [vcScShape]
  iterate 19 (refine br_lit (fun e => ⟨rfl, by rw [e]; rfl⟩) fun e => ?_)
  refine ⟨rfl, ?_⟩
  have hn : shapeP (bytesL s) = none := by simp only [shapeP, *, if_false, ite_false, reduceIte]
  rw [hn]; rfl
def shV25 : Option (Nat × Nat) → Value
  | some (k, t) => .tuple #[.int .i64 k, .int .i64 t]
  | none => .tuple #[.int .i64 (-1), .int .i64 0]
theorem shape25_spec {h : Heap} (s : Str) : HC Tryz.prog 43 #[.string s] h fun v h' => h' = h ∧ v = shV25 (shapeP (bytesL s)) := by
  refine HC_of_vc (args := [.string s]) (base := 33) (cuts := []) (bigs := []) hm Tryz.func43 ?_
  rw [vc25Shape]
  iterate 19 (refine br_lit (fun e => ⟨rfl, by rw [e]; rfl⟩) fun e => ?_)
  refine ⟨rfl, ?_⟩
  have hn : shapeP (bytesL s) = none := by simp only [shapeP, *, if_false, ite_false, reduceIte]
  rw [hn]; rfl

/-- a command as it lies in cells. -/
structure Cm where
  w : Str
  a : Option Addr
  n : Nat
  c : Nat
  b : Option Addr
  m : Nat
  d : Nat
abbrev Cm.cs (x : Cm) : List Value := [.string x.w, .slice x.a x.n x.c, .slice x.b x.m x.d]
theorem Cm.one (x : Cm) : ∀ v ∈ x.cs, (∀ c, v ≠ .agg c) ∧ (∀ c, v ≠ .tuple c) := fun v hv => by
  simp only [Cm.cs, List.mem_cons, List.not_mem_nil, or_false] at hv
  rcases hv with rfl | rfl | rfl
  · exact one_string _
  · exact one_slice _ _ _
  · exact one_slice _ _ _
def CmE : Enc Cm := ⟨3, Cm.cs, fun _ => rfl, fun x v h => x.one v h⟩
abbrev cmBox (x : Cm) : Obj := .cells (Array.mk x.cs) 39 (0, 0)
abbrev Cm.val (x : Cm) : Value := .agg (Array.mk x.cs)
def cm0 : Cm := ⟨⟨#[]⟩, none, 0, 0, none, 0, 0⟩
theorem agCm : agT Tryz.prog 39 3 = true := by kernel_rfl
theorem szCm : szOf Tryz.prog 39 = some 3 := by kernel_rfl
theorem app_cm : App Tryz.prog 35 39 CmE.sz 64 cm0.val := ⟨by kernel_rfl, by kernel_rfl, by kernel_rfl, by kernel_rfl, rfl, by decide, by decide⟩
theorem app_is : App Tryz.prog 37 3 (IntE .i64).sz 8 (.int .i64 0) := ⟨by kernel_rfl, by kernel_rfl, by kernel_rfl, by kernel_rfl, rfl, by decide, by decide⟩
theorem bs_i (n : Int) : bsCells Tryz.prog 37 1 [(0, .int .i64 n)] = some (3, [Value.int .i64 n]) :=
  bs_one (v := .int .i64 n) app_is.und app_is.size app_is.zero app_is.zlen (by decide) (by decide) rfl
theorem bs_cm (x : Cm) : bsCells Tryz.prog 35 1 [(0, x.val)] = some (39, CmE.enc x) :=
  bs_one (v := x.val) app_cm.und app_cm.size app_cm.zero app_cm.zlen (by decide) (by decide) rfl
theorem szIs : szOf Tryz.prog 37 = some 1 := by kernel_rfl
theorem scIs : scT Tryz.prog 37 = true := by kernel_rfl
section
variable {h : Heap} {b : Nat} {x : Cm}
theorem cm_load (hb : h[b]? = some (cmBox x)) : Reads Tryz.prog (Instr.loadAt 39 (.pointer (some ⟨b, 0, none⟩))) h x.val :=
  reads_load_agg (p := ⟨b, 0, none⟩) (cs := x.cs) agCm rfl (cells_all hb)
theorem cm_var (hb : h[b]? = some (cmBox x)) : Reads Tryz.prog (loadVar 39 ⟨b, 0, none⟩) h x.val :=
  reads_vag (cs := x.cs) agCm rfl (cells_all hb)
theorem cm_word (hb : h[b]? = some (cmBox x)) : Reads Tryz.prog (Instr.loadAt 9 (.pointer (some ⟨b, 0, none⟩))) h (.string x.w) :=
  reads_load scS (cell_cells0 hb rfl)
theorem cm_nums (hb : h[b]? = some (cmBox x)) : Reads Tryz.prog (Instr.loadAt 37 (.pointer (some ((⟨b, 0, none⟩ : Addr).add 1)))) h (.slice x.a x.n x.c) :=
  reads_load scIs (cell_cells hb rfl)
theorem cm_store {y : Cm} {K : Unit → Heap → Prop} (hb : h[b]? = some (cmBox x)) (k : ∀ h', h'.size = h.size → h'[b]? = some (cmBox y) → Upd (fun i => i = b) h h' → K () h') :
    SVC Tryz.prog (Instr.storeAt 39 (.pointer (some ⟨b, 0, none⟩)) y.val) h K :=
  svc_store_own (v := y.val) szCm hb rfl y.one fun h' h1 h2 h3 => k h' h1 h2 (upd_of_one h1 h3)
theorem cm_new {y : Cm} {K : Unit → Heap → Prop} (k : K () (h.push (cmBox y))) : SVC Tryz.prog (Instr.storeAt 39 (.pointer (some ⟨h.size, 0, none⟩)) y.val) (h.push (cmBox x)) K :=
  svc_store_new (v := y.val) szCm rfl y.one k
end
/-- what a call of parse says. -/
def ParseP (h : Heap) (s : Str) (v : Value) (h' : Heap) : Prop := Keep h.size h h' ∧ ∃ x : Cm, bytesL x.w = hdL (bytesL s) ∧ v = .tuple #[x.val, .bool (cmdP (bytesL s))]
/-- how each way through parse ends. -/
theorem cm_fin {R : Value → Heap → Prop} {G : Heap} {r b : Nat} {x z : Cm} {bo : Bool} (hb : G[b]? = some (cmBox x)) (hr : G[r]? = some (cmBox z))
    (k : ∀ G', G'.size = G.size → Upd (fun i => i = r) G G' → R (.tuple (Array.mk [x.val, .bool bo])) G') :
    ∃ (s15 : ByteArray), ∃ (a16 : Option Addr), ∃ (k17 : Nat), ∃ (k18 : Nat), ∃ (a19 : Option Addr), ∃ (k20 : Nat), ∃ (k21 : Nat),
    Reads Tryz.prog (Instr.loadAt 39 (Value.pointer (some (Addr.mk b (0 : Nat) none)))) G (Value.agg (Array.mk [Value.string s15, Value.slice a16 k17 k18, Value.slice a19 k20 k21])) ∧
    SVC Tryz.prog (Instr.storeAt 39 (Value.pointer (some (Addr.mk r (0 : Nat) none))) (Value.agg (Array.mk [Value.string s15, Value.slice a16 k17 k18, Value.slice a19 k20 k21]))) G fun (x22 : Unit) (h23 : Heap) =>
    ∃ (s24 : ByteArray), ∃ (a25 : Option Addr), ∃ (k26 : Nat), ∃ (k27 : Nat), ∃ (a28 : Option Addr), ∃ (k29 : Nat), ∃ (k30 : Nat),
    Reads Tryz.prog (loadVar 39 (Addr.mk r (0 : Nat) none)) h23 (Value.agg (Array.mk [Value.string s24, Value.slice a25 k26 k27, Value.slice a28 k29 k30])) ∧
    R (Value.tuple (Array.mk [Value.agg (Array.mk [Value.string s24, Value.slice a25 k26 k27, Value.slice a28 k29 k30]), Value.bool bo])) h23 :=
  ⟨_, _, _, _, _, _, _, cm_load hb, cm_store (y := x) hr fun G' z1 r1 u1 => ⟨_, _, _, _, _, _, _, cm_var r1, k G' z1 u1⟩⟩
theorem add0 {h : Heap} {p : Addr} {v : Value} (hc : cell h (p.add (0 * StrE.sz + 0)) = some v) : cell h p = some v := by
  have e : p.add (0 * StrE.sz + 0) = p := by
    show p.add 0 = p
    unfold Addr.add
    split <;> simp_all
  rw [e] at hc; exact hc
theorem words_at {s : Str} {i : Nat} {x : Str} (h : (splitS 32 s)[i]? = some x) : (wordsP (bytesL s))[i]? = some (bytesL x) := by
  have := splitS_bl 32 s
  unfold wordsP
  rw [← this, List.getElem?_map, h]; rfl
theorem words_le {s : Str} {i : Nat} {x : Str} (h : (splitS 32 s)[i]? = some x) : x.size ≤ s.size := by
  have h1 := List.mem_of_getElem? (words_at h)
  have h2 := split_le h1
  rw [bl_len, bl_len] at h2
  exact h2
theorem words_hd {s : Str} {x : Str} (h : (splitS 32 s)[0]? = some x) : bytesL x = hdL (bytesL s) := by
  have h1 := words_at h
  unfold hdL
  cases hw : wordsP (bytesL s) with
  | nil => rw [hw] at h1; cases h1
  | cons a l => rw [hw] at h1; cases h1; rfl
theorem splitS_pos (c : UInt8) (s : Str) : ∃ x, (splitS c s)[0]? = some x := by
  cases hs : splitL c (bytesL s) with
  | nil => exact absurd hs (splitL_pos c _)
  | cons a l => exact ⟨strL a, splitS_get (by rw [hs]; rfl)⟩
theorem own_sub {α : Type} {E : Enc α} {T : TypeId} {B : Nat} {h h' : Heap} {a : Option Addr} {n c : Nat} {xs : List α} (ho : Vc.Own E T B h a n c xs) (k : Keep h.size h h') : Vc.Own E T B h' a n c xs :=
  ho.upd (k.upd fun _ => False) fun _ _ hf => hf
/-- the rest of a slice of the call's own. -/
theorem own_tail {α : Type} {E : Enc α} {T : TypeId} {B : Nat} {h : Heap} {a : Option Addr} {n c : Nat} {xs : List α} (ho : Vc.Own E T B h a n c xs) (hn : 1 ≤ n) {i : Nat} {x : α} (hx : xs[i + 1]? = some x) :
    ∃ p, subA a 1 c E.sz = some p ∧ ∀ j v, (E.enc x)[j]? = some v → cell h (p.add (i * E.sz + j)) = some v :=
  (ho.o.drop hn).sl.get (i := i) (x := x) (by rw [List.getElem?_drop, Nat.add_comm]; exact hx)
set_option maxHeartbeats 1000000 in
theorem parse_spec {h : Heap} (g : Lib0 h) (s : Str) (hs : s.size ≤ 65536) : HC Tryz.prog 10 #[.string s] h (ParseP h s) := by
  refine HC_of_vc (args := [.string s]) (base := 74) (cuts := []) (bigs := []) hm Tryz.func10 ?_
  rw [vcScParse]
  have kb := keep_push h (cmBox cm0)
  have bb := push_at h (cmBox cm0)
  have zb : (h.push (cmBox cm0)).size = h.size + 1 := by simp
  refine (split_spec (g.keep kb) s 32 (by omega)).mono ?_
  rintro v h1 ⟨k1, rfl, own⟩
  have k01 := kb.trans (k1.mono kb.size)
  have b1 := k1.at bb (at_lt bb)
  have z1 := k1.size
  rw [zb] at z1
  obtain ⟨x0, hx0⟩ := splitS_pos 32 s
  have hd0 := words_hd hx0
  have hpos : 0 < (splitS 32 s).length := (List.getElem?_eq_some_iff.1 hx0).1
  have wl : (wordsP (bytesL s)).length = (splitS 32 s).length := (splitS_len 32 s).symm
  obtain ⟨p0, e0, hp0⟩ := own.sl.get hx0
  cases e0
  refine ⟨_, _, _, rfl, _, ⟨rfl, by omega, by omega⟩, x0, reads_load scS (hp0 0 (.string x0) rfl), ?_⟩
  refine cm_new (x := cm0) (y := ⟨x0, none, 0, 0, none, 0, 0⟩) ?_
  have bx := push_at h1 (cmBox ⟨x0, none, 0, 0, none, 0, 0⟩)
  have kx := keep_push h1 (cmBox ⟨x0, none, 0, 0, none, 0, 0⟩)
  have zx : (h1.push (cmBox ⟨x0, none, 0, 0, none, 0, 0⟩)).size = h1.size + 1 := by simp
  generalize h1.push (cmBox ⟨x0, none, 0, 0, none, 0, 0⟩) = H at bx kx zx
  have k0H := k01.trans (kx.mono k01.size)
  have bH := kx.at b1 (at_lt b1)
  refine ⟨_, cm_word bx, (shape_spec x0).mono ?_⟩
  rintro v h11 ⟨hh, rfl⟩
  rw [hh]
  clear hh
  -- how it ends
  have fin : ∀ {G : Heap} {x : Cm} {bo : Bool}, x.w = x0 → bo = cmdP (bytesL s) → Keep h.size h G → ∀ G', G'.size = G.size → Upd (fun i => i = h.size) G G' → ParseP h s (.tuple (Array.mk [x.val, .bool bo])) G' := by
    intro G x bo hx hbo kG G' z u
    refine ⟨kG.trans (u.keep kG.size fun i hi => by omega), x, by rw [hx]; exact hd0, by rw [hbo]⟩
  cases hsp : shapeP (bytesL x0) with
  | none =>
    refine ⟨_, _, _, rfl, br_intro (fun _ => ?_) fun e => by simp at e⟩
    exact cm_fin bx bH (fin rfl (cmd_none (by rw [← hd0]; exact hsp)).symm k0H)
  | some kt =>
    obtain ⟨k, t⟩ := kt
    have hle := shapeP_le hsp
    have hcm := cmd_some (l := bytesL s) (k := k) (t := t) (by rw [← hd0]; exact hsp)
    rw [wl] at hcm
    have w1 : IntKind.i64.wrap ((1 : Int) + (k : Int)) = ((k + 1 : Nat) : Int) := by rw [wrap_i64 (by omega) (by omega)]; omega
    have w2 : IntKind.i64.wrap (((k + 1 : Nat) : Int) + (t : Int)) = ((1 + k + t : Nat) : Int) := by rw [wrap_i64 (by omega) (by omega)]; omega
    refine ⟨(k : Int), (t : Int), true, rfl, ?_⟩
    rw [w1, w2]
    refine br_intro (fun e => ?_) fun e => ?_
    · have hne : (splitS 32 s).length ≠ 1 + k + t := by
        intro h2
        rw [h2] at e
        simp at e
      refine cm_fin bx bH (fin rfl ?_ k0H)
      rw [hcm, decide_eq_false hne]; rfl
    · have heq : (splitS 32 s).length = 1 + k + t := by
        have e : (((splitS 32 s).length : Int) != ((1 + k + t : Nat) : Int)) = false := by simpa using e
        have e := bne_eq_false_iff_eq.1 e
        omega
      have hcm : cmdP (bytesL s) = (((wordsP (bytesL s)).drop 1).take k).all numOk := by rw [hcm, decide_eq_true heq]; rfl
      refine ⟨⟨by omega, by omega, by omega, by omega⟩, ?_⟩
      have tn : (((k + 1 : Nat) : Int)).toNat - 1 = k := by rw [Int.toNat_natCast]; omega
      rw [tn]
      refine ⟨fun _ n34 G => ∃ j : Nat, n34 = j ∧ j ≤ k ∧ (((wordsP (bytesL s)).drop 1).take j).all numOk = true ∧ Keep h1.size h1 G ∧ H.size ≤ G.size ∧ ∃ a c xs, G[h1.size]? = some (cmBox ⟨x0, a, j, c, none, 0, 0⟩) ∧ Vc.Own (IntE .i64) 3 (h1.size + 1) G a j c xs,
        fun _ n34 _ => k - n34.toNat, ⟨0, rfl, Nat.zero_le _, rfl, kx, Nat.le_refl _, none, 0, [], bx, Vc.Own.nil _ _ _⟩, ?_⟩
      rintro b33 n34 G ⟨j, rfl, hj, hall, kG, zG, a, c, xs, bG, oG⟩
      have k0G := k01.trans (kG.mono k01.size)
      have bG0 := kG.at b1 (at_lt b1)
      refine br_intro (fun hlt => ?_) fun hge => ?_
      · have hlt : j < k := by simpa using hlt
        obtain ⟨x, hx⟩ : ∃ x, (splitS 32 s)[j + 1]? = some x := ⟨_, List.getElem?_eq_getElem (by omega)⟩
        have hxw := words_at hx
        have hxd : ((wordsP (bytesL s)).drop 1)[j]? = some (bytesL x) := by rw [List.getElem?_drop, Nat.add_comm]; exact hxw
        obtain ⟨p36, e36, c36⟩ := own_tail (own_sub own kG) hpos hx
        refine ⟨p36, ⟨e36, by omega, by omega⟩, x, ?_, ?_⟩
        · rw [Int.toNat_natCast]; exact reads_load scS (c36 0 (.string x) rfl)
        refine (atoi_spec (g.keep k0G) x (by have := words_le hx; omega)).mono ?_
        rintro v h39 ⟨k39, ev, rfl, hev⟩
        have bG39 := k39.at bG (at_lt bG)
        have bG039 := k39.at bG0 (at_lt bG0)
        have k039 := k0G.trans (k39.mono k0G.size)
        rcases hev with ⟨⟨n, hn⟩, rfl⟩ | ⟨hn, te, pe, rfl⟩
        · refine ⟨_, _, rfl, _, reads_err, br_intro (fun _ => ?_) fun e => absurd e (by decide)⟩
          have hrng := atoiV_rng (bytesL x)
          refine (itoa_spec (g.keep k039) hrng.1 hrng.2).mono ?_
          rintro v h44 ⟨k44, rfl⟩
          have bG44 := k44.at bG39 (at_lt bG39)
          have bG044 := k44.at bG039 (at_lt bG039)
          have k044 := k039.trans (k44.mono k039.size)
          have hno := numOk_ok hn
          rw [atoiV_ok hn] 
          refine ⟨_, rfl, br_intro (fun e => ?_) fun e => ?_⟩
          · rw [beq_dec'] at e
            have e : (!decide (strL (Lib.itoa n) = x)) = true := e
            have hne : strL (Lib.itoa n) ≠ x := by simpa using e
            have hne : Lib.itoa n ≠ bytesL x := fun h2 => hne (by rw [h2]; exact strL_bl x)
            rw [decide_eq_false hne] at hno
            refine cm_fin bG44 bG044 (fin rfl ?_ k044)
            rw [hcm, all_false hxd hlt hno]
          · rw [beq_dec'] at e
            have e : (!decide (strL (Lib.itoa n) = x)) = false := e
            have heq : strL (Lib.itoa n) = x := by simpa using e
            have heq : Lib.itoa n = bytesL x := by rw [← heq]; rfl
            rw [decide_eq_true heq] at hno
            have oG44 := own_sub (own_sub oG k39) k44
            have z44 := k44.size
            have z39 := k39.size
            have zG1 := at_lt bG
            refine ⟨_, _, _, cm_nums bG44, svc_append1 (x := n) app_is oG44 (by omega) (bs_i _) (by show (4 * (j + 1) + 192) * 8 ≤ 2 ^ 48; omega) fun a' c' h71 o71 u71 b71 => ?_⟩
            have nb : ∀ q, blk a q → h1.size + 1 ≤ q := fun q hq => (oG.block q hq).1
            have bx71 := u71.at bG44 (fun hq => by have := nb _ hq; omega)
            have k71 : Keep h1.size h44 h71 := u71.keep (by omega) fun q hq => by have := nb q hq; omega
            refine svc_store_box szIs bx71 (show 1 < 3 by decide) rfl (one_slice _ _ _) fun h76 z76 b76 u76 => ?_
            have k76 : Keep h1.size h71 h76 := u76.keep (by have := u71.size; omega) fun q hq => by omega
            have kk : Keep h1.size h1 h76 := ((((kG.trans (k39.mono (by omega))).trans (k44.mono (by omega))).trans k71)).trans k76
            rw [wrap_i64 (by omega) (by omega)]
            refine ⟨⟨j + 1, by omega, by omega, all_snoc hxd hall hno, kk, by have := u71.size; omega, a', c', xs ++ [n], b76, o71.upd u76 fun q hq => ?_⟩, ?_⟩
            · have := (o71.block q hq).1
              omega
            · dsimp only; omega
        · refine ⟨_, _, rfl, _, reads_err1, br_intro (fun e => absurd e (by decide)) fun _ => ?_⟩
          refine cm_fin bG39 bG039 (fin rfl ?_ k039)
          rw [hcm, all_false hxd hlt (numOk_no hn)]
      · have hge : j = k := by
          have : ¬ j < k := by simpa using hge
          omega
        subst hge
        refine ⟨⟨by omega, by omega, by omega, by omega⟩, ?_⟩
        refine svc_store_box szSs bG (show 2 < 3 by decide) rfl (one_slice _ _ _) fun h94 z94 b94 u94 => ?_
        have k94 : Keep h1.size G h94 := u94.keep (by have := at_lt bG; omega) fun q hq => by omega
        have k094 := k0G.trans (k94.mono k01.size)
        have r94 := k94.at bG0 (at_lt b1)
        refine cm_fin (x := ⟨x0, a, j, c, subA (some ⟨(h.push (cmBox cm0)).size, 0, none⟩) (((j + 1 : Nat) : Int)).toNat (splitS 32 s).length 1, (splitS 32 s).length - (((j + 1 : Nat) : Int)).toNat, (splitS 32 s).length - (((j + 1 : Nat) : Int)).toNat⟩) b94 r94 (fin rfl ?_ k094)
        rw [hcm, hall]
end Go.Proofs.YtbfolflejhkehaaGreatDoor
end

section
set_option linter.unusedVariables false
set_option linter.unusedSimpArgs false
set_option maxRecDepth 100000
namespace Go.Proofs.YtbfolflejhkehaaGreatDoor
open Go Go.Vc Go.Proofs Go.Dk Go.Sc

theorem PlAt.keep {h h' : Heap} {p : Nat} {l : List UInt8} (hp : PlAt h p l) (k : Keep h.size h h') : PlAt h' p l := by
  obtain ⟨dd, ad, a, n, c, hb, had, ho, h0⟩ := hp
  exact ⟨dd, ad, a, n, c, k.at hb (at_lt hb), had, own_sub ho k, h0⟩
theorem PlAt.lt {h : Heap} {p : Nat} {l : List UInt8} (hp : PlAt h p l) : p < h.size := by
  obtain ⟨dd, ad, a, n, c, hb, _⟩ := hp
  exact at_lt hb
theorem num0_spec {h : Heap} : HC Tryz.prog 32 #[.pointer none] h fun v h' => h' = h ∧ v = .int .i64 0 := by
  refine HC_of_vc (args := [.pointer none]) (base := 9) (cuts := []) (bigs := []) hm Tryz.func32 ?_
  rw [vcRpNum0]
  exact ⟨_, reads_eql_nil (by kernel_rfl), br_intro (fun _ => ⟨rfl, rfl⟩) fun e => by cases e⟩
theorem join1_spec {h : Heap} {A : Option Addr} {c : Nat} {x s : Str} (hs : Sl StrE h A 1 [x]) : HC Tryz.prog 69 #[.slice A 1 c, .string s] h fun v h' => h' = h ∧ v = .string x := by
  refine HC_of_vc (args := [.slice A 1 c, .string s]) (base := 75) (cuts := []) (bigs := []) hm Tryz.func69 ?_
  rw [vcJoin1]
  obtain ⟨p, rfl, hp⟩ := hs.get (i := 0) (x := x) rfl
  exact ⟨p, ⟨rfl, by decide, by decide⟩, x, reads_load scS (hp 0 (.string x) rfl), rfl, rfl⟩
theorem say_spec {h : Heap} {p : Nat} {l : List UInt8} (hp : PlAt h p l) (hl : l.length ≤ 900000) {A : Option Addr} {c : Nat} {x : Str} (hs : Sl StrE h A 1 [x]) (hx : x.size ≤ 1000) :
    HC Tryz.prog 31 #[.pointer (some ⟨p, 0, none⟩), .slice A 1 c] h fun v h' => v = .tuple #[] ∧ h.size ≤ h'.size ∧ Keep p h h' ∧ PlAt h' p (l ++ (bytesL x ++ [10])) := by
  refine HC_of_vc (args := [.pointer (some ⟨p, 0, none⟩), .slice A 1 c]) (base := 11) (cuts := []) (bigs := []) hm Tryz.func31 ?_
  rw [vcScSay]
  refine ⟨_, rfl, (join1_spec hs).mono ?_⟩
  rintro v h2 ⟨hh, rfl⟩
  rw [hh]
  clear hh
  have e : bytesL (x ++ ByteArray.mk (Array.mk [(10 : UInt8)])) = bytesL x ++ [10] := bl_app _ _
  have el := congrArg List.length e
  rw [bl_len, List.length_append, bl_len] at el
  simp only [List.length_singleton] at el
  refine ⟨_, rfl, by rw [imax]; omega, (write_spec hp (x ++ ByteArray.mk (Array.mk [(10 : UInt8)])) (by rw [e]; simp) (by omega)).mono ?_⟩
  rintro v h5 ⟨⟨n, w, rfl⟩, z5, k5, p5⟩
  rw [e] at p5
  exact ⟨_, _, rfl, rfl, z5, k5, p5⟩
theorem itoa0 : Lib.itoa 0 = [48] := itoa_zero
set_option maxHeartbeats 1000000 in
theorem play_spec {h : Heap} (g : Lib0 h) {p : Nat} {l : List UInt8} (hp : PlAt h p l) (hl : l.length ≤ 900000) {x : Cm} (hx : bytesL x.w = numW) :
    HC Tryz.prog 12 #[.pointer (some ⟨p, 0, none⟩), x.val] h fun v h' => v = .tuple #[] ∧ h.size ≤ h'.size ∧ Keep p h h' ∧ PlAt h' p (l ++ [48, 10]) := by
  refine HC_of_vc (args := [.pointer (some ⟨p, 0, none⟩), .agg #[.string x.w, .slice x.a x.n x.c, .slice x.b x.m x.d]]) (base := 275) (cuts := []) (bigs := []) hm Tryz.func12 ?_
  rw [vcScPlay]
  have kb := keep_push h (cmBox x)
  have bb := push_at h (cmBox x)
  have pb := hp.keep kb
  have gb := g.keep kb
  have zp := hp.lt
  have pb' := pb
  obtain ⟨dd, ad, a, n, c, hb, -⟩ := pb'
  refine ⟨x.w, cm_word bb, ?_⟩
  repeat refine br_lit (fun e => absurd (hx.symm.trans e) (by decide)) fun _ => ?_
  refine br_lit (fun _ => ?_) fun e => absurd hx e
  refine ⟨_, rfl, none, reads_load (by kernel_rfl) (cell_cells0 hb rfl), num0_spec.mono ?_⟩
  rintro v h1 ⟨rfl, rfl⟩
  refine ⟨_, rfl, (itoa_spec gb (n := 0) (by decide) (by decide)).mono ?_⟩
  rintro v h2 ⟨k2, rfl⟩
  have k02 := kb.trans (k2.mono kb.size)
  refine ⟨_, rfl, svc_row (B0 := 0) (Nat.zero_le _) fun h3 k3 z3 o3 => ⟨_, _, _, rfl, ?_⟩⟩
  have k03 := k02.trans (k3.mono k02.size)
  refine (say_spec (hp.keep k03) hl o3.sl (by rw [itoa0]; decide)).mono ?_
  rintro v h4 ⟨rfl, z4, k4, p4⟩
  have e : bytesL (strL (Lib.itoa 0)) ++ [10] = [48, 10] := by rw [itoa0]; rfl
  rw [e] at p4
  exact ⟨rfl, rfl, by have := k03.size; omega, (k03.mono (by omega)).trans k4, p4⟩
end Go.Proofs.YtbfolflejhkehaaGreatDoor
end

section
set_option linter.unusedVariables false
set_option linter.unusedSimpArgs false
set_option maxRecDepth 100000
namespace Go.Proofs.YtbfolflejhkehaaGreatDoor
open Go Go.Vc Go.Proofs Go.Dk

theorem setP_len (l : List Str) (i : Nat) (p : Str) : (setP l i p).length = max l.length (i + 1) := by simp [setP]; omega
theorem setP_get (l : List Str) (i : Nat) (p : Str) (j : Nat) : (setP l i p).getD j zp = if j = i then p else l.getD j zp := by
  unfold setP
  simp only [List.getD_eq_getElem?_getD, List.getElem?_set]
  by_cases h : i = j
  · subst h; simp; rw [if_pos (by omega)]; rfl
  · simp only [if_neg h, if_neg (Ne.symm h)]
    by_cases hj : j < l.length
    · simp [List.getElem?_append_left hj]
    · rw [List.getElem?_append_right (by omega), List.getElem?_eq_none (l := l) (by omega), List.getElem?_replicate]
      split <;> rfl
theorem pgs_put {F : Fs} (h : SrtF F) (n : Str) (l : List Str) (q : Str) : pgs (put n l F) q = if q = n then l else pgs F q := by
  unfold pgs; rw [get_put h]; split <;> rfl
theorem Like.look {F : Fs} {mc : List (Str × Int)} {mp : List ((Str × Int) × Str)} (hl : Like F mc mp) (n : Str) : (mGet mc n).getD 0 = ((pgs F n).length : Int) := by
  rw [hl.count]; unfold pgs; cases mGet F n <;> rfl
theorem Like.set {F : Fs} {mc : List (Str × Int)} {mp : List ((Str × Int) × Str)} (hl : Like F mc mp) (hs : SrtF F) (n : Str) (i : Nat) (q : Str) (k : Int) (hk : k = max ((pgs F n).length : Int) (i + 1)) :
    Like (put n (setP (pgs F n) i q) F) (mPut mc n k) (mPut mp (n, (i : Int)) q) := by
  refine ⟨fun m => ?_, fun m j => ?_, fun m j hj => ?_⟩
  · rw [mGet_put, get_put hs]
    by_cases h : n = m
    · subst h; simp [setP_len, hk]; omega
    · rw [if_neg h, if_neg (Ne.symm h)]; exact hl.count m
  · rw [mGet_put]
    unfold pg
    rw [pgs_put hs]
    have h0 := hl.page m j
    unfold pg at h0
    by_cases h : m = n
    · subst h
      rw [if_pos rfl]
      by_cases hj : (i : Int) = j
      · subst hj; rw [if_pos rfl, if_pos (by omega)]; simp only [Int.toNat_natCast, setP_get, if_true, Option.getD_some]
      · rw [if_neg (by simpa using hj), h0]
        by_cases h1 : 0 ≤ j
        · simp only [if_pos h1, setP_get]; rw [if_neg (by omega)]
        · simp only [if_neg h1]
    · rw [if_neg h, if_neg (by intro e; exact h (Prod.ext_iff.1 e).1.symm)]; exact h0
  · rw [mGet_put] at hj
    rw [pgs_put hs]
    by_cases h : m = n
    · subst h
      rw [if_pos rfl, setP_len]
      by_cases hij : (i : Int) = j
      · subst hij; omega
      · rw [if_neg (by simpa using hij)] at hj
        have := hl.there m j hj; omega
    · rw [if_neg h]; rw [if_neg (by intro e; exact h (Prod.ext_iff.1 e).1.symm)] at hj; exact hl.there m j hj

/-- one of two blocks. -/
def two (c p b : Nat) : Prop := b = c ∨ b = p

theorem free_spec {h : Heap} {d : Nat} {x : D} {O : Nat → Prop} (hd : DiskAt h d x O) :
    HC Tryz.prog 275 #[.pointer (some ⟨d, 0, none⟩)] h fun v h' => Keep h.size h h' ∧ v = .int .i64 (free x) := by
  obtain ⟨hO, c1, p1, c2, p2, A, n, c, hp, hb⟩ := hd
  obtain ⟨mc, mp, hc, hmp, hl⟩ := hp.now
  have hnd : (mKeys mc).Nodup := by obtain ⟨_, _, _, _, h0, _⟩ := hc; exact h0
  have hnn : ∀ q ∈ mc, 0 ≤ q.2 := fun q hq => by
    have h0 := (mGet_mem hnd q.1 q.2).1 hq
    rw [hl.count] at h0
    cases hg : mGet x.now q.1 with
    | none => rw [hg] at h0; cases h0
    | some l => rw [hg] at h0; simp at h0; omega
  have htot : sumV mc = tot x.now := by
    have hk : mKeys (x.now.map fun q => (q.1, (q.2.length : Int))) = names x.now := by simp [mKeys]
    have hg : ∀ (F : Fs) k, mGet (F.map fun q => (q.1, (q.2.length : Int))) k = (mGet F k).map fun l => (l.length : Int) := by
      intro F k
      induction F with
      | nil => rfl
      | cons q F ih => by_cases h0 : q.1 = k <;> simp [mGet, h0, ih]
    have hpm := perm_of_get hnd (by rw [hk]; exact srt_nodup hp.ok.now) fun k => (hl.count k).trans (hg x.now k).symm
    rw [sumV_perm hpm]
    generalize x.now = F
    induction F with
    | nil => rfl
    | cons q F ih => simp [sumV, tot] at ih ⊢; omega
  have hroom := hp.ok.tot
  have hr := hp.ok.room
  refine HC_of_vc (args := [.pointer (some ⟨d, 0, none⟩)]) (base := 26) (cuts := []) (bigs := []) hm Tryz.func275 ?_
  rw [vcFree]
  refine ⟨_, reads_eql_nil undD, br_intro (fun e => by cases e) fun _ => ⟨_, rfl, (x.room : Int), reads_load scI (hp.rd rfl), _, rfl, some c1, reads_load scMc (cell_cells0 hp.box rfl), ?_⟩⟩
  refine svc_range (M := Mc) hc fun h6 k6 s6 i6 => ⟨_, rfl, ?_⟩
  refine ⟨fun n10 h11 => ∃ left cur, IterAt Mc h11 h.size c1 mc left cur ∧ Keep h.size h h11 ∧ n10 = x.room - (sumV mc - sumV left) ∧ (∀ q ∈ left, 0 ≤ q.2) ∧ 0 ≤ sumV left ∧ sumV left ≤ sumV mc,
    fun n10 h11 => match h11[h.size]? with | some (.mapIter _ _ seen _) => (match h11[c1]? with | some (.map es _) => (leftOf es seen).size | _ => 0) | _ => 0,
    ⟨mc, none, i6, k6, by omega, hnn, sumV_nonneg hnn, Int.le_refl _⟩, ?_⟩
  rintro n10 h11 ⟨left, cur, hit, k11, rfl, hnl, h0, h1⟩
  have size : ∀ {h' : Heap} {left : List (Str × Int)} {cur}, IterAt Mc h' h.size c1 mc left cur → (match h'[h.size]? with | some (.mapIter _ _ seen _) => (match h'[c1]? with | some (.map es _) => (leftOf es seen).size | _ => 0) | _ => 0) = left.length := by
    rintro h' left cur ⟨es, clock, since, seen, last, e1, _, _, _, _, e2, _, _, _, e3, _⟩
    rw [e2, e1]
    have := congrArg List.length e3
    simpa using this
  refine svc_next hit (fun hl0 => .inl ⟨rfl, k11, ?_⟩) fun j q h13 hj u13 s13 i13 => .inr ⟨_, _, rfl, _, _, reads_entry i13, ⟨left.eraseIdx j, some q, i13, k11.trans ⟨by omega, fun b hb => u13.block b (by have := k11.size; omega) (by omega)⟩, ?_, fun r hr => hnl r (List.mem_of_mem_eraseIdx hr), ?_, ?_⟩, ?_⟩
  · subst hl0
    show Value.int .i64 _ = _
    congr 1
    unfold free
    rw [← htot]
    simp [sumV]
  · have hq := hnl q (List.mem_of_getElem? hj)
    have he := sumV_erase left j q hj
    have hn0 : 0 ≤ sumV (left.eraseIdx j) := sumV_nonneg fun r hr => hnl r (List.mem_of_mem_eraseIdx hr)
    rw [wrap_i64 (by omega) (by omega)]; omega
  · exact sumV_nonneg fun r hr => hnl r (List.mem_of_mem_eraseIdx hr)
  · have hq := hnl q (List.mem_of_getElem? hj)
    have he := sumV_erase left j q hj
    omega
  · dsimp only
    rw [size i13, size hit, List.length_eraseIdx]
    have := (List.getElem?_eq_some_iff.1 hj).1
    rw [if_pos this]; omega
end Go.Proofs.YtbfolflejhkehaaGreatDoor
end

section
namespace Go.Proofs
open Go.RowKit Go.Maps Go.Shelf

section
open Go.Shelf
def Tryz.cloneC_ren : Go.Shelf.Ren := ⟨fun | 5 => 50 | 7 => 91 | n => n, fun | 23 => 64 | 25 => 9 | 3 => 3 | 4 => 4 | 20 => 20 | n => n, fun | n => n⟩
theorem Tryz.cloneC : Go.Proofs.SlLaysW.n5 Tryz.prog Tryz.cloneC_ren := {
  mixed := by kernel_rfl
  f5 := ⟨Tryz.f50.name, by decide, Tryz.func50.trans (congrArg some (by kernel_rfl))⟩
  f7 := Tryz.func91.trans (congrArg some (by kernel_rfl))
  t4 := Tryz.underlying4
  a4 := Tryz.isAgg4
  z4 := Tryz.sizeOf4
  v4 := Tryz.zeroValue4
  t20 := Tryz.underlying20
  a20 := Tryz.isAgg20
  z20 := Tryz.sizeOf20
  v20 := Tryz.zeroValue20
  t23 := Tryz.underlying64
  a23 := Tryz.isAgg64
  z23 := Tryz.sizeOf64
  v23 := Tryz.zeroValue64 }
end
section
open Go.Shelf
def Tryz.cloneP_ren : Go.Shelf.Ren := ⟨fun | 5 => 51 | 7 => 91 | n => n, fun | 23 => 65 | 25 => 105 | 3 => 107 | 4 => 4 | 20 => 20 | n => n, fun | n => n⟩
theorem Tryz.cloneP : Go.Proofs.SlLaysW.n5 Tryz.prog Tryz.cloneP_ren := {
  mixed := by kernel_rfl
  f5 := ⟨Tryz.f51.name, by decide, Tryz.func51.trans (congrArg some (by kernel_rfl))⟩
  f7 := Tryz.func91.trans (congrArg some (by kernel_rfl))
  t4 := Tryz.underlying4
  a4 := Tryz.isAgg4
  z4 := Tryz.sizeOf4
  v4 := Tryz.zeroValue4
  t20 := Tryz.underlying20
  a20 := Tryz.isAgg20
  z20 := Tryz.sizeOf20
  v20 := Tryz.zeroValue20
  t23 := Tryz.underlying65
  a23 := Tryz.isAgg65
  z23 := Tryz.sizeOf65
  v23 := Tryz.zeroValue65 }
end
theorem Tryz.cloneC_calls (b : Nat) (es : Array MapEntry) (clock : Nat) (w : World) (hb : w.heap[b]? = some (.map es clock)) :
    Calls Tryz.prog 50 #[.map (some b)] w fun e w' => e = .returned (.map (some w.heap.size)) ∧ w' = w.alloc (.map es clock) := AnyW.maps_Clone Tryz.cloneC b es clock w hb
theorem Tryz.cloneP_calls (b : Nat) (es : Array MapEntry) (clock : Nat) (w : World) (hb : w.heap[b]? = some (.map es clock)) :
    Calls Tryz.prog 51 #[.map (some b)] w fun e w' => e = .returned (.map (some w.heap.size)) ∧ w' = w.alloc (.map es clock) := AnyW.maps_Clone Tryz.cloneP b es clock w hb
end Go.Proofs
end

section
set_option linter.unusedVariables false
set_option maxRecDepth 100000
namespace Go.Proofs.YtbfolflejhkehaaGreatDoor
open Go Go.Vc Go.Proofs

end Go.Proofs.YtbfolflejhkehaaGreatDoor
end

section
set_option linter.unusedVariables false
set_option linter.unusedSimpArgs false
set_option maxRecDepth 100000
namespace Go.Proofs.YtbfolflejhkehaaGreatDoor
open Go Go.Vc Go.Proofs Go.Dk

theorem clone_mapC {h : Heap} {b : Nat} {m : List (Str × Int)} (hm0 : MapAt Mc h b m) :
    HC Tryz.prog 50 #[.map (some b)] h fun v h' => Keep h.size h h' ∧ v = .map (some h.size) ∧ MapAt Mc h' h.size m ∧ h'.size = h.size + 1 := by
  obtain ⟨es, clock, hb, rest⟩ := hm0
  refine ⟨fun w hw => ?_⟩
  subst hw
  refine (Tryz.cloneC_calls b es clock w hb).mono ?_
  rintro e w' ⟨rfl, rfl⟩
  exact ⟨_, rfl, Sane.push rfl, keep_push _ _, rfl, ⟨es, clock, push_at _ _, rest⟩, by show (w.heap.push _).size = _; simp⟩
theorem clone_mapP {h : Heap} {b : Nat} {m : List ((Str × Int) × Str)} (hm0 : MapAt Mp h b m) :
    HC Tryz.prog 51 #[.map (some b)] h fun v h' => Keep h.size h h' ∧ v = .map (some h.size) ∧ MapAt Mp h' h.size m ∧ h'.size = h.size + 1 := by
  obtain ⟨es, clock, hb, rest⟩ := hm0
  refine ⟨fun w hw => ?_⟩
  subst hw
  refine (Tryz.cloneP_calls b es clock w hb).mono ?_
  rintro e w' ⟨rfl, rfl⟩
  exact ⟨_, rfl, Sane.push rfl, keep_push _ _, rfl, ⟨es, clock, push_at _ _, rest⟩, by show (w.heap.push _).size = _; simp⟩

theorem side_cells (c p : Nat) : oneCells [Value.map (some c), Value.map (some p)] := fun v hv => by
  simp only [List.mem_cons, List.not_mem_nil, or_false] at hv
  rcases hv with rfl | rfl <;> exact one_map _

theorem clone_spec {h : Heap} {c p : Nat} {F : Fs} (hs : SideAt h c p F) :
    HC Tryz.prog 20 #[.agg #[.map (some c), .map (some p)]] h
      fun v h' => Keep h.size h h' ∧ ∃ c' p', v = .agg #[.map (some c'), .map (some p')] ∧ SideAt h' c' p' F ∧ h.size ≤ c' ∧ h.size ≤ p' ∧ c' ≠ p' := by
  obtain ⟨mc, mp, hc, hp, hl⟩ := hs
  refine HC_of_vc (args := [.agg #[.map (some c), .map (some p)]]) (base := 10) (cuts := []) (bigs := []) hm Tryz.func20 ?_
  rw [vcClone]
  generalize hH : ((Array.push h (Obj.cells (Array.mk [Value.map (some c), Value.map (some p)]) 67)).push (Obj.cells (Array.mk [Value.map none, Value.map none]) 67)) = H
  have b0 : H[h.size]? = some (Obj.cells (Array.mk [Value.map (some c), Value.map (some p)]) 67) := by rw [← hH]; exact push2_0 _ _ _
  have b1 : H[h.size + 1]? = some (Obj.cells (Array.mk [Value.map none, Value.map none]) 67) := by rw [← hH]; exact push2_1 _ _ _
  have kH : Keep h.size h H := by rw [← hH]; exact (keep_push h _).trans (Keep.push _ _ _ (by simp))
  have sH : H.size = h.size + 2 := by rw [← hH]; simp
  clear hH
  simp only [Array.size_push]
  refine ⟨fun h' => h'[h.size]? = some (Obj.cells (Array.mk [Value.map (some c), Value.map (some p)]) 67), b0, some c, reads_load scMc (cell_cells0 b0 rfl), (clone_mapC (hc.keep kH)).mono ?_⟩
  rintro v h3 ⟨k3, rfl, m3, s3⟩
  have e3 := k3.at b0 (by omega)
  refine ⟨_, rfl, e3, some p, fun h6 e6 => reads_load scMp (cell_cells e6 rfl), (clone_mapP ((hp.keep kH).keep k3)).mono ?_⟩
  rintro v h8 ⟨k8, rfl, m8, s8⟩
  have e8 := k8.at e3 (by omega)
  refine ⟨_, rfl, ?_⟩
  refine svc_store_own (b := h.size + 1) (T := 67) (old := Array.mk [Value.map none, Value.map none]) szSide (k8.at (k3.at b1 (by omega)) (by omega)) rfl (side_cells _ _) fun h11 s11 b11 u11 => ?_
  have uu := upd_of_one s11 u11
  refine ⟨some H.size, some h3.size, (reads_load_agg (p := ⟨h.size + 1, 0, none⟩) (cs := [Value.map (some H.size), Value.map (some h3.size)]) agSide rfl (cells_all b11)), ?_⟩
  refine ⟨kH.trans ((k3.mono kH.size).trans ((k8.mono (by omega)).trans ⟨by omega, fun i hi => u11 i (by omega)⟩)), H.size, h3.size, rfl, ⟨mc, mp, (m3.keep k8).upd uu (by omega), m8.upd uu (by omega), hl⟩, by omega, by omega, by omega⟩

theorem like_nil : Like [] [] [] := ⟨fun n => rfl, fun n i => by simp [mGet, pg, pgs], fun n i h => by cases h⟩
theorem new_ok (room : Int) : Ok (new room) :=
  ⟨List.Pairwise.nil, List.Pairwise.nil, by show (min (max room 0) 4096).toNat ≤ 4096; omega, Nat.zero_le _, fun n => Nat.le_refl _, fun w hw => (by cases hw), fun n p hp => (by cases hp), fun n p hp => (by cases hp), Nat.zero_le _, ⟨Int.le_refl 0, by show (0 : Int) < _; decide⟩⟩
theorem new_spec (h : Heap) (room : Int) :
    HC Tryz.prog 11 #[.int .i64 room] h fun v h' => Keep h.size h h' ∧ ∃ d, v = .pointer (some ⟨d, 0, none⟩) ∧ DiskAt h' d (new room) fun b => h.size ≤ b ∧ b < h'.size := by
  refine HC_of_vc (args := [.int .i64 room]) (base := 15) (cuts := []) (bigs := []) hm Tryz.func11 ?_
  rw [vcNew]
  generalize hH : ((Array.push h (Obj.map (Array.mk []) 0)).push (Obj.map (Array.mk []) 0)) = H
  have m0 : MapAt Mc H h.size [] := by rw [← hH]; exact ⟨#[], 0, push2_0 _ _ _, rfl, List.nodup_nil, by simp, by simp⟩
  have m1 : MapAt Mp H (h.size + 1) [] := by rw [← hH]; exact ⟨#[], 0, push2_1 _ _ _, rfl, List.nodup_nil, by simp, by simp⟩
  have kH : Keep h.size h H := by rw [← hH]; exact (keep_push h _).trans (Keep.push _ _ _ (by simp))
  have sH : H.size = h.size + 2 := by rw [← hH]; simp
  clear hH
  simp only [Array.size_push]
  refine svc_store_new (v := .agg _) szSide rfl (side_cells _ _) ?_
  have b2 := push_at H (Obj.cells (Value.cells (.agg (Array.mk [Value.map (some h.size), Value.map (some (h.size + 1))]))) 67 (0, 0))
  have k1 := keep_push H (Obj.cells (Value.cells (.agg (Array.mk [Value.map (some h.size), Value.map (some (h.size + 1))]))) 67 (0, 0))
  have rd : ∀ {h5 : Heap}, h5[H.size]? = some (Obj.cells (Array.mk [Value.map (some h.size), Value.map (some (h.size + 1))]) 67 (0, 0)) →
      Reads Tryz.prog (Instr.loadAt 67 (.pointer (some ⟨H.size, 0, none⟩))) h5 (.agg (Array.mk [Value.map (some h.size), Value.map (some (h.size + 1))])) := fun h5 =>
    reads_load_agg (cs := [Value.map (some h.size), Value.map (some (h.size + 1))]) agSide rfl (cells_all h5)
  refine ⟨fun h' => h'[H.size]? = some (Obj.cells (Array.mk [Value.map (some h.size), Value.map (some (h.size + 1))]) 67 (0, 0)), b2, some h.size, some (h.size + 1), fun h5 e5 => rd e5, _, _, rd b2, ?_⟩
  have s1 : SideAt (H.push (Obj.cells (Value.cells (.agg (Array.mk [Value.map (some h.size), Value.map (some (h.size + 1))]))) 67 (0, 0))) h.size (h.size + 1) [] := ⟨[], [], m0.keep k1, m1.keep k1, like_nil⟩
  refine (clone_spec s1).mono ?_
  rintro v h9 ⟨k9, c', p', rfl, s9, l1, l2, l3⟩
  have e9 := k9.at b2 (by simp)
  have z9 := k9.size
  simp only [Array.size_push] at l1 l2 z9
  refine ⟨_, _, rfl, e9, _, fun _ _ => reads_max, _, fun _ _ => reads_min, ?_⟩
  have kp := keep_push h9 (Obj.cells (Array.mk (diskC h.size (h.size + 1) c' p' none 0 0 (new room))) 72 (0, 0))
  have hr : (if (4096 : Int) < (if (0 : Int) > room then 0 else room) then 4096 else (if (0 : Int) > room then 0 else room)) = (new room).room := by
    show _ = ((min (max room 0) 4096).toNat : Int)
    split <;> split <;> omega
  have ebox : (Obj.cells (Array.mk [Value.map (some h.size), Value.map (some (h.size + 1)), Value.map (some c'), Value.map (some p'), Value.slice none 0 0, Value.int IntKind.i64 (if (4096 : Int) < (if (0 : Int) > room then 0 else room) then 4096 else (if (0 : Int) > room then 0 else room)), Value.bool false, Value.int IntKind.i64 0, Value.int IntKind.i64 0, Value.int IntKind.u64 0]) 72 (0, 0)) = Obj.cells (Array.mk (diskC h.size (h.size + 1) c' p' none 0 0 (new room))) 72 (0, 0) := by
    rw [hr]; rfl
  rw [ebox]
  have kk : Keep h.size h (h9.push (Obj.cells (Array.mk (diskC h.size (h.size + 1) c' p' none 0 0 (new room))) 72 (0, 0))) :=
    kH.trans ((k1.mono (by omega)).trans ((k9.mono (by simp; omega)).trans (kp.mono (by omega))))
  have s19 : SideAt h9 h.size (h.size + 1) [] := s1.upd (k9.upd fun _ => False) (fun h => h) (fun h => h)
  refine ⟨kk, h9.size, rfl, fun b hb => by simpa using hb.2, h.size, h.size + 1, c', p', none, 0, 0, ⟨push_at _ _, s19.upd (kp.upd fun _ => False) (fun h => h) (fun h => h), s9.upd (kp.upd fun _ => False) (fun h => h) (fun h => h), Own.nil _ _ _, ?_, new_ok room⟩, ?_⟩
  · simp; omega
  · have := s9.lt
    rintro b (rfl | rfl | rfl | rfl | rfl | ⟨q, e, _⟩)
    all_goals first | (cases e) | omega | (simp only [Array.size_push]; omega)

end Go.Proofs.YtbfolflejhkehaaGreatDoor
end
