/-
  Texts of this seat, laid one behind the other: C2g PZg. Conditions: none.
-/
import Derived.Test.YthkhaobmhheoaaaGreatVcE
import Derived.Test.YthkhaobmhheoaaaGreatProg
import Derived.KernelRfl
section
set_option linter.unusedVariables false
set_option maxRecDepth 100000
namespace Go.Proofs.YthkhaobmhheoaaaGreat
open Go Go.Vc Go.Proofs

theorem vcFail (r : Nat) (h : Heap) (R : Value → Heap → Prop) :
    vcF Tryz.prog Tryz.f129 10 [] [] [.pointer (some ⟨r, 0, none⟩)] h R =
(∃ (b0 : Bool),
 Reads Tryz.prog (eqSem BinOp.neq (159 : Nat) (Operand.tmp (2 : Nat)) (Operand.const (Value.pointer none)) (Value.pointer (some (Addr.mk r (0 : Nat) none))) (Value.pointer none)) h (Value.bool b0) ∧
 br b0
 (∃ (p1 : Addr),
 some (Addr.mk r (0 : Nat) none) = some p1 ∧
 SVC Tryz.prog (Instr.storeAt (4 : Nat) (Value.pointer (some (p1.add (1 : Nat)))) (Value.bool true)) h fun (x2 : Unit) (h3 : Heap) =>
 ∃ (p4 : Addr),
 some (Addr.mk r (0 : Nat) none) = some p4 ∧
 SVC Tryz.prog (Instr.storeAt (22 : Nat) (Value.pointer (some p4)) (Value.slice none (0 : Nat) (0 : Nat))) h3 fun (x5 : Unit) (h6 : Heap) => R (Value.tuple (Array.mk [])) h6)
 (R (Value.tuple (Array.mk [])) h)) := by kernel_rfl

theorem vcRdUint (r : Nat) (h : Heap) (R : Value → Heap → Prop) :
    vcF Tryz.prog Tryz.f130 56 [] [] [.pointer (some ⟨r, 0, none⟩)] h R =
(∃ (b0 : Bool),
 Reads Tryz.prog (eqSem BinOp.eql (159 : Nat) (Operand.tmp (6 : Nat)) (Operand.const (Value.pointer none)) (Value.pointer (some (Addr.mk r (0 : Nat) none))) (Value.pointer none)) h (Value.bool b0) ∧
 br b0 (R (Value.int IntKind.u64 (0 : Int)) h)
 (∃ (p1 : Addr),
 some (Addr.mk r (0 : Nat) none) = some p1 ∧
 ∃ (a2 : Option Addr),
 ∃ (k3 : Nat),
 ∃ (k4 : Nat),
 Reads Tryz.prog (Instr.loadAt (22 : Nat) (Value.pointer (some p1))) h (Value.slice a2 k3 k4) ∧
 ∃ (I5 : Int → Int → Int → Heap → Prop),
 ∃ (I6 : Int → Int → Int → Heap → Nat),
 I5 (0 : Int) (0 : Int) (0 : Int) h ∧
 ∀ (n7 n8 n9 : Int) (h10 : Heap),
 I5 n7 n8 n9 h10 →
 br (decide (n9 < (↑k3 : Int)))
 (∃ (p11 : Addr),
 (a2 = some p11 ∧ (0 : Int) ≤ n9 ∧ n9 < (↑k3 : Int)) ∧
 ∃ (n12 : Int),
 Reads Tryz.prog (Instr.loadAt (5 : Nat) (Value.pointer (some (p11.add (n9.toNat * (1 : Nat)))))) h10 (Value.int IntKind.u8 n12) ∧
 br (n9 == (9 : Int) && decide (n12 > (1 : Int)) || decide (n9 > (0 : Int)) && n12 == (0 : Int))
 (HC Tryz.prog (129 : Nat) (Array.mk [Value.pointer (some (Addr.mk r (0 : Nat) none))]) h10 fun (v13 : Value) (h14 : Heap) =>
 v13 = Value.tuple (Array.mk []) ∧ R (Value.int IntKind.u64 (0 : Int)) h14)
 ((0 : Int) ≤ IntKind.i64.wrap ((7 : Int) * n9) ∧
 br (decide (n12 < (128 : Int)))
 (∃ (p15 : Addr),
 some (Addr.mk r (0 : Nat) none) = some p15 ∧
 ∃ (a16 : Option Addr),
 ∃ (k17 : Nat),
 ∃ (k18 : Nat),
 Reads Tryz.prog (Instr.loadAt (22 : Nat) (Value.pointer (some p15))) h10 (Value.slice a16 k17 k18) ∧
 ((0 : Int) ≤ IntKind.i64.wrap (n9 + (1 : Int)) ∧
 IntKind.i64.wrap (n9 + (1 : Int)) ≤ (↑k17 : Int) ∧ (↑k17 : Int) ≤ (↑k18 : Int) ∧ (↑k18 : Int) ≤ (↑k18 : Int)) ∧
 ∃ (p19 : Addr),
 some (Addr.mk r (0 : Nat) none) = some p19 ∧
 SVC Tryz.prog
 (Instr.storeAt (22 : Nat) (Value.pointer (some p19))
 (Value.slice (subA a16 (IntKind.i64.wrap (n9 + (1 : Int))).toNat k18 (1 : Nat)) (k17 - (IntKind.i64.wrap (n9 + (1 : Int))).toNat)
 (k18 - (IntKind.i64.wrap (n9 + (1 : Int))).toNat)))
 h10 fun (x20 : Unit) (h21 : Heap) =>
 R
 (Value.int IntKind.u64
 (IntKind.u64.wrap
 (↑(BitVec.ofInt (64 : Nat) n8 |||
 BitVec.ofInt (64 : Nat)
 (IntKind.u64.wrap
 (IntKind.u64.wrap
 (IntKind.u8.wrap (↑(BitVec.ofInt (8 : Nat) n12 &&& BitVec.ofInt (8 : Nat) (127 : Int)).toNat : Int)) *
 (2 : Int) ^ min (IntKind.i64.wrap ((7 : Int) * n9)).toNat (64 : Nat)))).toNat :
 Int)))
 h21)
 (I5 n7
 (IntKind.u64.wrap
 (↑(BitVec.ofInt (64 : Nat) n8 |||
 BitVec.ofInt (64 : Nat)
 (IntKind.u64.wrap
 (IntKind.u64.wrap (IntKind.u8.wrap (↑(BitVec.ofInt (8 : Nat) n12 &&& BitVec.ofInt (8 : Nat) (127 : Int)).toNat : Int)) *
 (2 : Int) ^ min (IntKind.i64.wrap ((7 : Int) * n9)).toNat (64 : Nat)))).toNat :
 Int))
 (IntKind.i64.wrap (n9 + (1 : Int))) h10 ∧
 I6 n7
 (IntKind.u64.wrap
 (↑(BitVec.ofInt (64 : Nat) n8 |||
 BitVec.ofInt (64 : Nat)
 (IntKind.u64.wrap
 (IntKind.u64.wrap (IntKind.u8.wrap (↑(BitVec.ofInt (8 : Nat) n12 &&& BitVec.ofInt (8 : Nat) (127 : Int)).toNat : Int)) *
 (2 : Int) ^ min (IntKind.i64.wrap ((7 : Int) * n9)).toNat (64 : Nat)))).toNat :
 Int))
 (IntKind.i64.wrap (n9 + (1 : Int))) h10 <
 I6 n7 n8 n9 h10)))
 (HC Tryz.prog (129 : Nat) (Array.mk [Value.pointer (some (Addr.mk r (0 : Nat) none))]) h10 fun (v22 : Value) (h23 : Heap) =>
 v22 = Value.tuple (Array.mk []) ∧ R (Value.int IntKind.u64 (0 : Int)) h23))) := by kernel_rfl

theorem vcRdInt (r : Nat) (h : Heap) (R : Value → Heap → Prop) :
    vcF Tryz.prog Tryz.f128 14 [] [] [.pointer (some ⟨r, 0, none⟩)] h R =
(HC Tryz.prog (130 : Nat) (Array.mk [Value.pointer (some (Addr.mk r (0 : Nat) none))]) h fun (v0 : Value) (h1 : Heap) =>
 ∃ (n2 : Int),
 v0 = Value.int IntKind.u64 n2 ∧
 (0 : Int) ≤ (1 : Int) ∧
 R
 (Value.int IntKind.i64
 (IntKind.i64.wrap
 (↑(BitVec.ofInt (64 : Nat) (IntKind.i64.wrap (n2.fdiv ((2 : Int) ^ (1 : Nat)))) ^^^
 BitVec.ofInt (64 : Nat)
 (IntKind.i64.wrap ((0 : Int) - IntKind.i64.wrap (IntKind.u64.wrap (↑(BitVec.ofInt (64 : Nat) n2 &&& BitVec.ofInt (64 : Nat) (1 : Int)).toNat : Int))))).toNat :
 Int)))
 h1) := by kernel_rfl

theorem vcRdIn (r : Nat) (lo hi : Int) (h : Heap) (R : Value → Heap → Prop) :
    vcF Tryz.prog Tryz.f97 28 [4] [] [.pointer (some ⟨r, 0, none⟩), .int .i64 lo, .int .i64 hi] h R =
(HC Tryz.prog (128 : Nat) (Array.mk [Value.pointer (some (Addr.mk r (0 : Nat) none))]) h fun (v0 : Value) (h1 : Heap) =>
 ∃ (n2 : Int),
 v0 = Value.int IntKind.i64 n2 ∧
 ∃ (I3 : Heap → Prop),
 (HC Tryz.prog (98 : Nat) (Array.mk [Value.pointer (some (Addr.mk r (0 : Nat) none))]) h1 fun (v4 : Value) (h5 : Heap) =>
 ∃ (b6 : Bool),
 v4 = Value.bool b6 ∧
 br (b6 && (decide (n2 < lo) || decide (n2 > hi)))
 (HC Tryz.prog (129 : Nat) (Array.mk [Value.pointer (some (Addr.mk r (0 : Nat) none))]) h5 fun (v7 : Value) (h8 : Heap) => v7 = Value.tuple (Array.mk []) ∧ I3 h8) (I3 h5)) ∧
 ∀ (h9 : Heap),
 I3 h9 →
 HC Tryz.prog (98 : Nat) (Array.mk [Value.pointer (some (Addr.mk r (0 : Nat) none))]) h9 fun (v10 : Value) (h11 : Heap) =>
 ∃ (b12 : Bool), v10 = Value.bool b12 ∧ br (!b12) (R (Value.int IntKind.i64 (0 : Int)) h11) (R (Value.int IntKind.i64 n2) h11)) := by kernel_rfl

theorem vcRdTake (r : Nat) (n : Int) (h : Heap) (R : Value → Heap → Prop) :
    vcF Tryz.prog Tryz.f131 46 [] [] [.pointer (some ⟨r, 0, none⟩), .int .i64 n] h R =
(∃ (b0 : Bool),
 Reads Tryz.prog (eqSem BinOp.eql (159 : Nat) (Operand.tmp (6 : Nat)) (Operand.const (Value.pointer none)) (Value.pointer (some (Addr.mk r (0 : Nat) none))) (Value.pointer none)) h (Value.bool b0) ∧
 ∃ (p1 : Addr),
 ((!b0) = true → some (Addr.mk r (0 : Nat) none) = some p1) ∧
 ∃ (b2 : Bool),
 ((!b0) = true → Reads Tryz.prog (Instr.loadAt (4 : Nat) (Value.pointer (some (p1.add (1 : Nat))))) h (Value.bool b2)) ∧
 ∃ (p3 : Addr),
 ((!(b0 || b2 || decide (n < (0 : Int)))) = true → some (Addr.mk r (0 : Nat) none) = some p3) ∧
 ∃ (a4 : Option Addr),
 ∃ (k5 : Nat),
 ∃ (k6 : Nat),
 ((!(b0 || b2 || decide (n < (0 : Int)))) = true → Reads Tryz.prog (Instr.loadAt (22 : Nat) (Value.pointer (some p3))) h (Value.slice a4 k5 k6)) ∧
 br (b0 || b2 || decide (n < (0 : Int)) || decide (n > (↑k5 : Int)))
 (HC Tryz.prog (129 : Nat) (Array.mk [Value.pointer (some (Addr.mk r (0 : Nat) none))]) h fun (v7 : Value) (h8 : Heap) =>
 v7 = Value.tuple (Array.mk []) ∧ R (Value.string (ByteArray.mk (Array.mk []))) h8)
 (∃ (p9 : Addr),
 some (Addr.mk r (0 : Nat) none) = some p9 ∧
 ∃ (a10 : Option Addr),
 ∃ (k11 : Nat),
 ∃ (k12 : Nat),
 Reads Tryz.prog (Instr.loadAt (22 : Nat) (Value.pointer (some p9))) h (Value.slice a10 k11 k12) ∧
 ((0 : Int) ≤ n ∧ n ≤ (↑k12 : Int) ∧ (↑k12 : Int) ≤ (↑k12 : Int)) ∧
 ∃ (s13 : ByteArray),
 Reads Tryz.prog (convert (22 : Nat) (9 : Nat) (Value.slice a10 n.toNat k12)) h (Value.string s13) ∧
 ∃ (p14 : Addr),
 some (Addr.mk r (0 : Nat) none) = some p14 ∧
 ∃ (a15 : Option Addr),
 ∃ (k16 : Nat),
 ∃ (k17 : Nat),
 Reads Tryz.prog (Instr.loadAt (22 : Nat) (Value.pointer (some p14))) h (Value.slice a15 k16 k17) ∧
 ((0 : Int) ≤ n ∧ n ≤ (↑k16 : Int) ∧ (↑k16 : Int) ≤ (↑k17 : Int) ∧ (↑k17 : Int) ≤ (↑k17 : Int)) ∧
 ∃ (p18 : Addr),
 some (Addr.mk r (0 : Nat) none) = some p18 ∧
 SVC Tryz.prog
 (Instr.storeAt (22 : Nat) (Value.pointer (some p18)) (Value.slice (subA a15 n.toNat k17 (1 : Nat)) (k16 - n.toNat) (k17 - n.toNat))) h
 fun (x19 : Unit) (h20 : Heap) => R (Value.string s13) h20)) := by kernel_rfl

theorem vcRdText (r : Nat) (n : Int) (h : Heap) (R : Value → Heap → Prop) :
    vcF Tryz.prog Tryz.f99 22 [] [] [.pointer (some ⟨r, 0, none⟩), .int .i64 n] h R =
(HC Tryz.prog (130 : Nat) (Array.mk [Value.pointer (some (Addr.mk r (0 : Nat) none))]) h fun (v0 : Value) (h1 : Heap) =>
 ∃ (n2 : Int),
 v0 = Value.int IntKind.u64 n2 ∧
 br (decide (n < (0 : Int)) || decide (n2 > IntKind.u64.wrap n))
 (HC Tryz.prog (129 : Nat) (Array.mk [Value.pointer (some (Addr.mk r (0 : Nat) none))]) h1 fun (v3 : Value) (h4 : Heap) =>
 v3 = Value.tuple (Array.mk []) ∧ R (Value.string (ByteArray.mk (Array.mk []))) h4)
 (HC Tryz.prog (131 : Nat) (Array.mk [Value.pointer (some (Addr.mk r (0 : Nat) none)), Value.int IntKind.i64 (IntKind.i64.wrap n2)]) h1 fun (v5 : Value) (h6 : Heap) =>
 ∃ (s7 : ByteArray), v5 = Value.string s7 ∧ R (Value.string s7) h6)) := by kernel_rfl

theorem vcRdGood (r : Nat) (h : Heap) (R : Value → Heap → Prop) :
    vcF Tryz.prog Tryz.f98 12 [] [] [.pointer (some ⟨r, 0, none⟩)] h R =
(∃ (b0 : Bool),
 Reads Tryz.prog (eqSem BinOp.neq (159 : Nat) (Operand.tmp (3 : Nat)) (Operand.const (Value.pointer none)) (Value.pointer (some (Addr.mk r (0 : Nat) none))) (Value.pointer none)) h (Value.bool b0) ∧
 ∃ (p1 : Addr),
 (b0 = true → some (Addr.mk r (0 : Nat) none) = some p1) ∧
 ∃ (b2 : Bool), (b0 = true → Reads Tryz.prog (Instr.loadAt (4 : Nat) (Value.pointer (some (p1.add (1 : Nat))))) h (Value.bool b2)) ∧ R (Value.bool (b0 && !b2)) h) := by kernel_rfl

theorem vcRdEnd (r : Nat) (h : Heap) (R : Value → Heap → Prop) :
    vcF Tryz.prog Tryz.f100 13 [] [] [.pointer (some ⟨r, 0, none⟩)] h R =
(HC Tryz.prog (98 : Nat) (Array.mk [Value.pointer (some (Addr.mk r (0 : Nat) none))]) h fun (v0 : Value) (h1 : Heap) =>
 ∃ (b2 : Bool),
 v0 = Value.bool b2 ∧
 ∃ (p3 : Addr),
 (b2 = true → some (Addr.mk r (0 : Nat) none) = some p3) ∧
 ∃ (a4 : Option Addr),
 ∃ (k5 : Nat), ∃ (k6 : Nat), (b2 = true → Reads Tryz.prog (Instr.loadAt (22 : Nat) (Value.pointer (some p3))) h1 (Value.slice a4 k5 k6)) ∧ R (Value.bool (b2 && (↑k5 : Int) == (0 : Int))) h1) := by kernel_rfl

theorem vcCRead (A : Option Addr) (n c : Nat) (h : Heap) (R : Value → Heap → Prop) :
    vcF Tryz.prog Tryz.f96 7 [] [] [.slice A n c] h R =
(SVC Tryz.prog (Builtin.append_ (Array.mk [(22 : Nat), (22 : Nat)]) (22 : Nat) (Array.mk [Value.slice none (0 : Nat) (0 : Nat), Value.slice A n c])) h fun (v0 : Value) (h1 : Heap) =>
 ∃ (a2 : Option Addr),
 ∃ (k3 : Nat),
 ∃ (k4 : Nat),
 v0 = Value.slice a2 k3 k4 ∧ R (Value.pointer (some (Addr.mk (Array.size h1) (0 : Nat) none))) (Array.push h1 (Obj.cells (Array.mk [Value.slice a2 k3 k4, Value.bool false]) (186 : Nat)))) := by kernel_rfl

theorem vcSize (x : Int) (h : Heap) (R : Value → Heap → Prop) :
    vcF Tryz.prog Tryz.f148 8 [] [] [.int .u64 x] h R =
(HC Tryz.prog (158 : Nat) (Array.mk [Value.int IntKind.u64 (IntKind.u64.wrap (↑(BitVec.ofInt (64 : Nat) x ||| BitVec.ofInt (64 : Nat) (1 : Int)).toNat : Int))]) h fun (v0 : Value) (h1 : Heap) =>
 ∃ (n2 : Int), v0 = Value.int IntKind.i64 n2 ∧ (7 : Int) ≠ (0 : Int) ∧ R (Value.int IntKind.i64 (IntKind.i64.wrap ((IntKind.i64.wrap (n2 + (6 : Int))).tdiv (7 : Int)))) h1) := by kernel_rfl

theorem vcLen64 (x : Int) (h : Heap) (R : Value → Heap → Prop) :
    vcF Tryz.prog Tryz.f158 25 [4,7,10] [] [.int .u64 x] h R =
(∃ (I0 : Int → Int → Heap → Prop),
 br (decide (x ≥ (4294967296 : Int))) ((0 : Int) ≤ (32 : Int) ∧ I0 (x.fdiv ((2 : Int) ^ (32 : Nat))) (32 : Int) h) (I0 x (0 : Int) h) ∧
 ∀ (n1 n2 : Int) (h3 : Heap),
 I0 n1 n2 h3 →
 ∃ (I4 : Int → Int → Heap → Prop),
 br (decide (n1 ≥ (65536 : Int))) ((0 : Int) ≤ (16 : Int) ∧ I4 (n1.fdiv ((2 : Int) ^ (16 : Nat))) (IntKind.i64.wrap (n2 + (16 : Int))) h3) (I4 n1 n2 h3) ∧
 ∀ (n5 n6 : Int) (h7 : Heap),
 I4 n5 n6 h7 →
 ∃ (I8 : Int → Int → Heap → Prop),
 br (decide (n5 ≥ (256 : Int))) ((0 : Int) ≤ (8 : Int) ∧ I8 (n5.fdiv ((2 : Int) ^ (8 : Nat))) (IntKind.i64.wrap (n6 + (8 : Int))) h7) (I8 n5 n6 h7) ∧
 ∀ (n9 n10 : Int) (h11 : Heap),
 I8 n9 n10 h11 →
 ((0 : Int) ≤ IntKind.u8.wrap n9 ∧ IntKind.u8.wrap n9 < (↑(256 : Nat) : Int)) ∧
 R
 (Value.int IntKind.i64
 (IntKind.i64.wrap
 (n10 +
 IntKind.i64.wrap
 (byteAt
 (ByteArray.mk
 (Array.mk
 [(0 : UInt8), (1 : UInt8), (2 : UInt8), (2 : UInt8), (3 : UInt8), (3 : UInt8), (3 : UInt8), (3 : UInt8), (4 : UInt8), (4 : UInt8), (4 : UInt8), (4 : UInt8),
 (4 : UInt8), (4 : UInt8), (4 : UInt8), (4 : UInt8), (5 : UInt8), (5 : UInt8), (5 : UInt8), (5 : UInt8), (5 : UInt8), (5 : UInt8), (5 : UInt8), (5 : UInt8),
 (5 : UInt8), (5 : UInt8), (5 : UInt8), (5 : UInt8), (5 : UInt8), (5 : UInt8), (5 : UInt8), (5 : UInt8), (6 : UInt8), (6 : UInt8), (6 : UInt8), (6 : UInt8),
 (6 : UInt8), (6 : UInt8), (6 : UInt8), (6 : UInt8), (6 : UInt8), (6 : UInt8), (6 : UInt8), (6 : UInt8), (6 : UInt8), (6 : UInt8), (6 : UInt8), (6 : UInt8),
 (6 : UInt8), (6 : UInt8), (6 : UInt8), (6 : UInt8), (6 : UInt8), (6 : UInt8), (6 : UInt8), (6 : UInt8), (6 : UInt8), (6 : UInt8), (6 : UInt8), (6 : UInt8),
 (6 : UInt8), (6 : UInt8), (6 : UInt8), (6 : UInt8), (7 : UInt8), (7 : UInt8), (7 : UInt8), (7 : UInt8), (7 : UInt8), (7 : UInt8), (7 : UInt8), (7 : UInt8),
 (7 : UInt8), (7 : UInt8), (7 : UInt8), (7 : UInt8), (7 : UInt8), (7 : UInt8), (7 : UInt8), (7 : UInt8), (7 : UInt8), (7 : UInt8), (7 : UInt8), (7 : UInt8),
 (7 : UInt8), (7 : UInt8), (7 : UInt8), (7 : UInt8), (7 : UInt8), (7 : UInt8), (7 : UInt8), (7 : UInt8), (7 : UInt8), (7 : UInt8), (7 : UInt8), (7 : UInt8),
 (7 : UInt8), (7 : UInt8), (7 : UInt8), (7 : UInt8), (7 : UInt8), (7 : UInt8), (7 : UInt8), (7 : UInt8), (7 : UInt8), (7 : UInt8), (7 : UInt8), (7 : UInt8),
 (7 : UInt8), (7 : UInt8), (7 : UInt8), (7 : UInt8), (7 : UInt8), (7 : UInt8), (7 : UInt8), (7 : UInt8), (7 : UInt8), (7 : UInt8), (7 : UInt8), (7 : UInt8),
 (7 : UInt8), (7 : UInt8), (7 : UInt8), (7 : UInt8), (7 : UInt8), (7 : UInt8), (7 : UInt8), (7 : UInt8), (8 : UInt8), (8 : UInt8), (8 : UInt8), (8 : UInt8),
 (8 : UInt8), (8 : UInt8), (8 : UInt8), (8 : UInt8), (8 : UInt8), (8 : UInt8), (8 : UInt8), (8 : UInt8), (8 : UInt8), (8 : UInt8), (8 : UInt8), (8 : UInt8),
 (8 : UInt8), (8 : UInt8), (8 : UInt8), (8 : UInt8), (8 : UInt8), (8 : UInt8), (8 : UInt8), (8 : UInt8), (8 : UInt8), (8 : UInt8), (8 : UInt8), (8 : UInt8),
 (8 : UInt8), (8 : UInt8), (8 : UInt8), (8 : UInt8), (8 : UInt8), (8 : UInt8), (8 : UInt8), (8 : UInt8), (8 : UInt8), (8 : UInt8), (8 : UInt8), (8 : UInt8),
 (8 : UInt8), (8 : UInt8), (8 : UInt8), (8 : UInt8), (8 : UInt8), (8 : UInt8), (8 : UInt8), (8 : UInt8), (8 : UInt8), (8 : UInt8), (8 : UInt8), (8 : UInt8),
 (8 : UInt8), (8 : UInt8), (8 : UInt8), (8 : UInt8), (8 : UInt8), (8 : UInt8), (8 : UInt8), (8 : UInt8), (8 : UInt8), (8 : UInt8), (8 : UInt8), (8 : UInt8),
 (8 : UInt8), (8 : UInt8), (8 : UInt8), (8 : UInt8), (8 : UInt8), (8 : UInt8), (8 : UInt8), (8 : UInt8), (8 : UInt8), (8 : UInt8), (8 : UInt8), (8 : UInt8),
 (8 : UInt8), (8 : UInt8), (8 : UInt8), (8 : UInt8), (8 : UInt8), (8 : UInt8), (8 : UInt8), (8 : UInt8), (8 : UInt8), (8 : UInt8), (8 : UInt8), (8 : UInt8),
 (8 : UInt8), (8 : UInt8), (8 : UInt8), (8 : UInt8), (8 : UInt8), (8 : UInt8), (8 : UInt8), (8 : UInt8), (8 : UInt8), (8 : UInt8), (8 : UInt8), (8 : UInt8),
 (8 : UInt8), (8 : UInt8), (8 : UInt8), (8 : UInt8), (8 : UInt8), (8 : UInt8), (8 : UInt8), (8 : UInt8), (8 : UInt8), (8 : UInt8), (8 : UInt8), (8 : UInt8),
 (8 : UInt8), (8 : UInt8), (8 : UInt8), (8 : UInt8), (8 : UInt8), (8 : UInt8), (8 : UInt8), (8 : UInt8), (8 : UInt8), (8 : UInt8), (8 : UInt8), (8 : UInt8),
 (8 : UInt8), (8 : UInt8), (8 : UInt8), (8 : UInt8)]))
 (IntKind.u8.wrap n9)))))
 h11) := by kernel_rfl

theorem vcNext (A : Option Addr) (n c : Nat) (h : Heap) (R : Value → Heap → Prop) :
    vcF Tryz.prog Tryz.f127 54 [] [] [.slice A n c] h R =
(HC Tryz.prog (96 : Nat) (Array.mk [Value.slice A n c]) h fun (v0 : Value) (h1 : Heap) =>
 ∃ (a2 : Option Addr),
 v0 = Value.pointer a2 ∧
 HC Tryz.prog (99 : Nat) (Array.mk [Value.pointer a2, Value.int IntKind.i64 (↑n : Int)]) h1 fun (v3 : Value) (h4 : Heap) =>
 ∃ (s5 : ByteArray),
 v3 = Value.string s5 ∧
 HC Tryz.prog (98 : Nat) (Array.mk [Value.pointer a2]) h4 fun (v6 : Value) (h7 : Heap) =>
 ∃ (b8 : Bool),
 v6 = Value.bool b8 ∧
 br (!b8) (R (Value.tuple (Array.mk [Value.string (ByteArray.mk (Array.mk [])), Value.int IntKind.i64 (0 : Int), Value.bool false])) h7)
 (HC Tryz.prog (148 : Nat) (Array.mk [Value.int IntKind.u64 (IntKind.u64.wrap (↑s5.size : Int))]) h7 fun (v9 : Value) (h10 : Heap) =>
 ∃ (n11 : Int),
 v9 = Value.int IntKind.i64 n11 ∧
 br (decide ((↑n : Int) < IntKind.i64.wrap (IntKind.i64.wrap (n11 + (↑s5.size : Int)) + (4 : Int))))
 (R (Value.tuple (Array.mk [Value.string (ByteArray.mk (Array.mk [])), Value.int IntKind.i64 (0 : Int), Value.bool false])) h10)
 (((0 : Int) ≤ IntKind.i64.wrap (n11 + (↑s5.size : Int)) ∧ IntKind.i64.wrap (n11 + (↑s5.size : Int)) ≤ (↑c : Int) ∧ (↑c : Int) ≤ (↑c : Int)) ∧
 HC Tryz.prog (108 : Nat) (Array.mk [Value.slice A (IntKind.i64.wrap (n11 + (↑s5.size : Int))).toNat c]) h10 fun (v12 : Value) (h13 : Heap) =>
 ∃ (n14 : Int),
 v12 = Value.int IntKind.u32 n14 ∧
 ∃ (I15 : ByteArray → Int → Bool → Int → Heap → Prop),
 ∃ (I16 : ByteArray → Int → Bool → Int → Heap → Nat),
 I15 (ByteArray.mk (Array.mk [])) (0 : Int) false (0 : Int) h13 ∧
 ∀ (s17 : ByteArray) (n18 : Int) (b19 : Bool) (n20 : Int) (h21 : Heap),
 I15 s17 n18 b19 n20 h21 →
 br (decide (n20 < (4 : Int)))
 (∃ (p22 : Addr),
 (A = some p22 ∧
 (0 : Int) ≤ IntKind.i64.wrap (IntKind.i64.wrap (n11 + (↑s5.size : Int)) + n20) ∧
 IntKind.i64.wrap (IntKind.i64.wrap (n11 + (↑s5.size : Int)) + n20) < (↑n : Int)) ∧
 ∃ (n23 : Int),
 Reads Tryz.prog
 (Instr.loadAt (5 : Nat)
 (Value.pointer (some (p22.add ((IntKind.i64.wrap (IntKind.i64.wrap (n11 + (↑s5.size : Int)) + n20)).toNat * (1 : Nat))))))
 h21 (Value.int IntKind.u8 n23) ∧
 (0 : Int) ≤ IntKind.i64.wrap ((8 : Int) * n20) ∧
 br (n23 != IntKind.u8.wrap (n14.fdiv ((2 : Int) ^ min (IntKind.i64.wrap ((8 : Int) * n20)).toNat (32 : Nat))))
 (R (Value.tuple (Array.mk [Value.string (ByteArray.mk (Array.mk [])), Value.int IntKind.i64 (0 : Int), Value.bool false])) h21)
 (I15 s17 n18 b19 (IntKind.i64.wrap (n20 + (1 : Int))) h21 ∧
 I16 s17 n18 b19 (IntKind.i64.wrap (n20 + (1 : Int))) h21 < I16 s17 n18 b19 n20 h21))
 (R
 (Value.tuple
 (Array.mk [Value.string s5, Value.int IntKind.i64 (IntKind.i64.wrap (IntKind.i64.wrap (n11 + (↑s5.size : Int)) + (4 : Int))), Value.bool true]))
 h21)))) := by kernel_rfl

theorem vcSplit (A : Option Addr) (n c : Nat) (h : Heap) (R : Value → Heap → Prop) :
    vcF Tryz.prog Tryz.f95 28 [] [] [.slice A n c] h R =
(∃ (I0 : Option Addr → Nat → Nat → Int → Option Addr → Nat → Nat → Int → Heap → Prop),
 ∃ (I1 : Option Addr → Nat → Nat → Int → Option Addr → Nat → Nat → Int → Heap → Nat),
 I0 none (0 : Nat) (0 : Nat) (0 : Int) none (0 : Nat) (0 : Nat) (0 : Int) h ∧
 ∀ (a2 : Option Addr) (k3 k4 : Nat) (n5 : Int) (a6 : Option Addr) (k7 k8 : Nat) (n9 : Int) (h10 : Heap),
 I0 a2 k3 k4 n5 a6 k7 k8 n9 h10 →
 ((0 : Int) ≤ n9 ∧ n9 ≤ (↑n : Int) ∧ (↑n : Int) ≤ (↑c : Int) ∧ (↑c : Int) ≤ (↑c : Int)) ∧
 HC Tryz.prog (127 : Nat) (Array.mk [Value.slice (subA A n9.toNat c (1 : Nat)) (n - n9.toNat) (c - n9.toNat)]) h10 fun (v11 : Value) (h12 : Heap) =>
 ∃ (s13 : ByteArray),
 ∃ (n14 : Int),
 ∃ (b15 : Bool),
 v11 = Value.tuple (Array.mk [Value.string s13, Value.int IntKind.i64 n14, Value.bool b15]) ∧
 br (!b15) (R (Value.tuple (Array.mk [Value.slice a6 k7 k8, Value.int IntKind.i64 n9])) h12)
 (SVC Tryz.prog (Instr.buildSlice (25 : Nat) (1 : Nat) (Array.mk [((0 : Nat), Value.string s13)])) h12 fun (v16 : Value) (h17 : Heap) =>
 ∃ (a18 : Option Addr),
 ∃ (k19 : Nat),
 ∃ (k20 : Nat),
 v16 = Value.slice a18 k19 k20 ∧
 SVC Tryz.prog (Builtin.append_ (Array.mk [(25 : Nat), (25 : Nat)]) (25 : Nat) (Array.mk [Value.slice a6 k7 k8, Value.slice a18 k19 k20])) h17
 fun (v21 : Value) (h22 : Heap) =>
 ∃ (a23 : Option Addr),
 ∃ (k24 : Nat),
 ∃ (k25 : Nat),
 v21 = Value.slice a23 k24 k25 ∧
 I0 a2 k3 k4 n5 a23 k24 k25 (IntKind.i64.wrap (n9 + n14)) h22 ∧
 I1 a2 k3 k4 n5 a23 k24 k25 (IntKind.i64.wrap (n9 + n14)) h22 < I1 a2 k3 k4 n5 a6 k7 k8 n9 h10)) := by kernel_rfl

theorem vcRedo (p : Nat) (h : Heap) (R : Value → Heap → Prop) :
    vcF Tryz.prog Tryz.f60 78 [] [] [.pointer (some ⟨p, 0, none⟩)] h R =
(∃ (I0 : Heap → Prop),
 I0 h ∧
 ∃ (p1 : Addr),
 some (Addr.mk p (0 : Nat) none) = some p1 ∧
 ∃ (a2 : Option Addr),
 (∀ (h3 : Heap), I0 h3 → Reads Tryz.prog (Instr.loadAt (32 : Nat) (Value.pointer (some p1))) h3 (Value.pointer a2)) ∧
 HC Tryz.prog (59 : Nat) (Array.mk [Value.pointer (some (Addr.mk p (0 : Nat) none))]) h fun (v4 : Value) (h5 : Heap) =>
 ∃ (s6 : ByteArray),
 v4 = Value.string s6 ∧
 I0 h5 ∧
 HC Tryz.prog (74 : Nat) (Array.mk [Value.pointer a2, Value.string s6]) h5 fun (v7 : Value) (h8 : Heap) =>
 ∃ (n9 : Int),
 v7 = Value.int IntKind.i64 n9 ∧
 ∃ (I10 : Int → Option Addr → Nat → Nat → Int → Heap → Prop),
 ∃ (I11 : Int → Option Addr → Nat → Nat → Int → Heap → Nat),
 I10 (0 : Int) none (0 : Nat) (0 : Nat) (0 : Int) h8 ∧
 ∀ (n12 : Int) (a13 : Option Addr) (k14 k15 : Nat) (n16 : Int) (h17 : Heap),
 I10 n12 a13 k14 k15 n16 h17 →
 br (decide (n16 < n9))
 (∃ (I18 : Heap → Prop),
 I18 h17 ∧
 ∃ (p19 : Addr),
 some (Addr.mk p (0 : Nat) none) = some p19 ∧
 ∃ (a20 : Option Addr),
 (∀ (h21 : Heap), I18 h21 → Reads Tryz.prog (Instr.loadAt (32 : Nat) (Value.pointer (some p19))) h21 (Value.pointer a20)) ∧
 HC Tryz.prog (59 : Nat) (Array.mk [Value.pointer (some (Addr.mk p (0 : Nat) none))]) h17 fun (v22 : Value) (h23 : Heap) =>
 ∃ (s24 : ByteArray),
 v22 = Value.string s24 ∧
 I18 h23 ∧
 HC Tryz.prog (94 : Nat) (Array.mk [Value.pointer a20, Value.string s24, Value.int IntKind.i64 n16]) h23 fun (v25 : Value) (h26 : Heap) =>
 ∃ (a27 : Option Addr),
 ∃ (k28 : Nat),
 ∃ (k29 : Nat),
 ∃ (n30 : Int),
 v25 = Value.tuple (Array.mk [Value.slice a27 k28 k29, Value.int IntKind.i64 n30]) ∧
 br (n30 != (0 : Int)) (R (Value.int IntKind.i64 n30) h26)
 (SVC Tryz.prog
 (Builtin.append_ (Array.mk [(22 : Nat), (22 : Nat)]) (22 : Nat) (Array.mk [Value.slice a13 k14 k15, Value.slice a27 k28 k29]))
 h26 fun (v31 : Value) (h32 : Heap) =>
 ∃ (a33 : Option Addr),
 ∃ (k34 : Nat),
 ∃ (k35 : Nat),
 v31 = Value.slice a33 k34 k35 ∧
 I10 n12 a33 k34 k35 (IntKind.i64.wrap (n16 + (1 : Int))) h32 ∧
 I11 n12 a33 k34 k35 (IntKind.i64.wrap (n16 + (1 : Int))) h32 < I11 n12 a13 k14 k15 n16 h17))
 (HC Tryz.prog (95 : Nat) (Array.mk [Value.slice a13 k14 k15]) h17 fun (v36 : Value) (h37 : Heap) =>
 ∃ (a38 : Option Addr),
 ∃ (k39 : Nat),
 ∃ (k40 : Nat),
 ∃ (n41 : Int),
 v36 = Value.tuple (Array.mk [Value.slice a38 k39 k40, Value.int IntKind.i64 n41]) ∧
 br ((↑k39 : Int) == (0 : Int)) (R (Value.int IntKind.i64 (4 : Int)) h37)
 (∃ (p42 : Addr),
 (a38 = some p42 ∧ (0 : Int) ≤ (0 : Int) ∧ (0 : Int) < (↑k39 : Int)) ∧
 ∃ (s43 : ByteArray),
 Reads Tryz.prog (Instr.loadAt (9 : Nat) (Value.pointer (some p42))) h37 (Value.string s43) ∧
 SVC Tryz.prog (convert (9 : Nat) (22 : Nat) (Value.string s43)) h37 fun (v44 : Value) (h45 : Heap) =>
 ∃ (a46 : Option Addr),
 ∃ (k47 : Nat),
 ∃ (k48 : Nat),
 v44 = Value.slice a46 k47 k48 ∧
 HC Tryz.prog (96 : Nat) (Array.mk [Value.slice a46 k47 k48]) h45 fun (v49 : Value) (h50 : Heap) =>
 ∃ (a51 : Option Addr),
 v49 = Value.pointer a51 ∧
 HC Tryz.prog (97 : Nat) (Array.mk [Value.pointer a51, Value.int IntKind.i64 (0 : Int), Value.int IntKind.i64 (4096 : Int)])
 (Array.push h50 (Obj.map (Array.mk []) (0 : Nat))) fun (v52 : Value) (h53 : Heap) =>
 ∃ (n54 : Int),
 v52 = Value.int IntKind.i64 n54 ∧
 ∃ (I55 : Int → Heap → Prop),
 ∃ (I56 : Int → Heap → Nat),
 I55 n54 h53 ∧
 ∀ (n57 : Int) (h58 : Heap),
 I55 n57 h58 →
 br (decide (n57 > (0 : Int)))
 (HC Tryz.prog (98 : Nat) (Array.mk [Value.pointer a51]) h58 fun (v59 : Value) (h60 : Heap) =>
 ∃ (b61 : Bool),
 v59 = Value.bool b61 ∧
 br b61
 (HC Tryz.prog (97 : Nat)
 (Array.mk
 [Value.pointer a51, Value.int IntKind.i64 (0 : Int), Value.int IntKind.i64 (4096 : Int)])
 h60 fun (v62 : Value) (h63 : Heap) =>
 ∃ (n64 : Int),
 v62 = Value.int IntKind.i64 n64 ∧
 HC Tryz.prog (99 : Nat) (Array.mk [Value.pointer a51, Value.int IntKind.i64 (512 : Int)])
 h63 fun (v65 : Value) (h66 : Heap) =>
 ∃ (s67 : ByteArray),
 v65 = Value.string s67 ∧
 SVC Tryz.prog (convert (9 : Nat) (22 : Nat) (Value.string s67)) h66
 fun (v68 : Value) (h69 : Heap) =>
 ∃ (a70 : Option Addr),
 ∃ (k71 : Nat),
 ∃ (k72 : Nat),
 v68 = Value.slice a70 k71 k72 ∧
 SVC Tryz.prog
 (Instr.mapUpdate (48 : Nat) (Value.map (some (Array.size h50)))
 (Value.int IntKind.i64 n64) (Value.slice a70 k71 k72))
 h69 fun (x73 : Unit) (h74 : Heap) =>
 I55 (IntKind.i64.wrap (n57 - (1 : Int))) h74 ∧
 I56 (IntKind.i64.wrap (n57 - (1 : Int))) h74 < I56 n57 h58)
 (HC Tryz.prog (100 : Nat) (Array.mk [Value.pointer a51]) h60 fun (v75 : Value) (h76 : Heap) =>
 ∃ (b77 : Bool),
 v75 = Value.bool b77 ∧
 br (!b77) (R (Value.int IntKind.i64 (4 : Int)) h76)
 (HC Tryz.prog (73 : Nat)
 (Array.mk
 [Value.pointer (some (Addr.mk p (0 : Nat) none)), Value.map (some (Array.size h50))])
 h76 fun (v78 : Value) (h79 : Heap) =>
 ∃ (n80 : Int), v78 = Value.int IntKind.i64 n80 ∧ R (Value.int IntKind.i64 n80) h79)))
 (HC Tryz.prog (100 : Nat) (Array.mk [Value.pointer a51]) h58 fun (v81 : Value) (h82 : Heap) =>
 ∃ (b83 : Bool),
 v81 = Value.bool b83 ∧
 br (!b83) (R (Value.int IntKind.i64 (4 : Int)) h82)
 (HC Tryz.prog (73 : Nat)
 (Array.mk [Value.pointer (some (Addr.mk p (0 : Nat) none)), Value.map (some (Array.size h50))])
 h82 fun (v84 : Value) (h85 : Heap) =>
 ∃ (n86 : Int), v84 = Value.int IntKind.i64 n86 ∧ R (Value.int IntKind.i64 n86) h85))))) := by kernel_rfl
end Go.Proofs.YthkhaobmhheoaaaGreat
end

section
set_option linter.unusedVariables false
set_option maxRecDepth 100000
namespace Go.Proofs.YthkhaobmhheoaaaGreat
open Go Go.Vc Go.Proofs

theorem vcPgForms (A : Option Addr) (n c : Nat) (B : Option Addr) (m d : Nat) (h : Heap) (R : Value → Heap → Prop) :
    vcF Tryz.prog Tryz.f3 134 [23] [] [.slice A n c, .slice B m d] h R =
(HC Tryz.prog (11 : Nat) (Array.mk []) h fun (v0 : Value) (h1 : Heap) =>
 ∃ (b2 : Bool),
 v0 = Value.bool b2 ∧
 br (!b2) (R (Value.bool false) h1)
 (br (decide ((↑n : Int) > (4096 : Int)) || decide ((↑m : Int) > (6 : Int))) (R (Value.bool true) h1)
 (∃ (s3 : ByteArray),
 Reads Tryz.prog (convert (22 : Nat) (9 : Nat) (Value.slice A n c)) h1 (Value.string s3) ∧
 SVC Tryz.prog (Instr.buildSlice (23 : Nat) (0 : Nat) (Array.mk [])) h1 fun (v4 : Value) (h5 : Heap) =>
 ∃ (a6 : Option Addr),
 ∃ (k7 : Nat),
 ∃ (k8 : Nat),
 v4 = Value.slice a6 k7 k8 ∧
 SVC Tryz.prog (Builtin.append_ (Array.mk [(23 : Nat), (23 : Nat)]) (23 : Nat) (Array.mk [Value.slice a6 k7 k8, Value.slice B m d])) h5 fun (v9 : Value) (h10 : Heap) =>
 ∃ (a11 : Option Addr),
 ∃ (k12 : Nat),
 ∃ (k13 : Nat),
 v9 = Value.slice a11 k12 k13 ∧
 ∃ (I14 : Bool → Option Addr → Nat → Nat → Int → Heap → Prop),
 ∃ (I15 : Bool → Option Addr → Nat → Nat → Int → Heap → Nat),
 I14 false none (0 : Nat) (0 : Nat) (0 : Int) h10 ∧
 ∀ (b16 : Bool) (a17 : Option Addr) (k18 k19 : Nat) (n20 : Int) (h21 : Heap),
 I14 b16 a17 k18 k19 n20 h21 →
 br (decide (n20 < (↑k12 : Int)))
 (∃ (p22 : Addr),
 (a11 = some p22 ∧ (0 : Int) ≤ n20 ∧ n20 < (↑k12 : Int)) ∧
 ∃ (n23 : Int),
 ∃ (s24 : ByteArray),
 Reads Tryz.prog (Instr.loadAt (27 : Nat) (Value.pointer (some (p22.add (n20.toNat * (2 : Nat)))))) h21
 (Value.agg (Array.mk [Value.int IntKind.i64 n23, Value.string s24])) ∧
 SVC Tryz.prog
 (Instr.storeAt (27 : Nat) (Value.pointer (some (Addr.mk (Array.size h21) (0 : Nat) none)))
 (Value.agg (Array.mk [Value.int IntKind.i64 n23, Value.string s24])))
 (Array.push h21 (Obj.cells (Array.mk [Value.int IntKind.i64 (0 : Int), Value.string (ByteArray.mk (Array.mk []))]) (27 : Nat)))
 fun (x25 : Unit) (h26 : Heap) =>
 ∃ (s27 : ByteArray),
 Reads Tryz.prog (Instr.loadAt (9 : Nat) (Value.pointer (some ((Addr.mk (Array.size h21) (0 : Nat) none).add (1 : Nat))))) h26
 (Value.string s27) ∧
 br (decide ((↑s27.size : Int) > (512 : Int))) (R (Value.bool true) h26)
 (∃ (p28 : Addr),
 (a11 = some p28 ∧ (0 : Int) ≤ n20 ∧ n20 < (↑k12 : Int)) ∧
 SVC Tryz.prog (Instr.storeAt (3 : Nat) (Value.pointer (some (p28.add (n20.toNat * (2 : Nat))))) (Value.int IntKind.i64 n20)) h26
 fun (x29 : Unit) (h30 : Heap) =>
 ∃ (s31 : ByteArray),
 Reads Tryz.prog (Instr.loadAt (9 : Nat) (Value.pointer (some ((Addr.mk (Array.size h21) (0 : Nat) none).add (1 : Nat))))) h30
 (Value.string s31) ∧
 HC Tryz.prog (12 : Nat) (Array.mk [Value.string s31]) h30 fun (v32 : Value) (h33 : Heap) =>
 ∃ (s34 : ByteArray),
 v32 = Value.string s34 ∧
 SVC Tryz.prog (Instr.buildSlice (25 : Nat) (1 : Nat) (Array.mk [((0 : Nat), Value.string s34)])) h33
 fun (v35 : Value) (h36 : Heap) =>
 ∃ (a37 : Option Addr),
 ∃ (k38 : Nat),
 ∃ (k39 : Nat),
 v35 = Value.slice a37 k38 k39 ∧
 SVC Tryz.prog
 (Builtin.append_ (Array.mk [(25 : Nat), (25 : Nat)]) (25 : Nat)
 (Array.mk [Value.slice a17 k18 k19, Value.slice a37 k38 k39]))
 h36 fun (v40 : Value) (h41 : Heap) =>
 ∃ (a42 : Option Addr),
 ∃ (k43 : Nat),
 ∃ (k44 : Nat),
 v40 = Value.slice a42 k43 k44 ∧
 I14 b16 a42 k43 k44 (IntKind.i64.wrap (n20 + (1 : Int))) h41 ∧
 I15 b16 a42 k43 k44 (IntKind.i64.wrap (n20 + (1 : Int))) h41 < I15 b16 a17 k18 k19 n20 h21))
 (∃ (I45 : Bool → ByteArray → Bool → Heap → Prop),
 ((2 : Int) ≠ (0 : Int) ∧
 br ((↑n : Int).tmod (2 : Int) == (0 : Int) && decide ((↑k12 : Int) > (0 : Int)))
 (HC Tryz.prog (14 : Nat) (Array.mk [Value.slice a11 k12 k13]) h21 fun (v46 : Value) (h47 : Heap) =>
 ∃ (s48 : ByteArray),
 v46 = Value.string s48 ∧
 HC Tryz.prog (13 : Nat) (Array.mk [Value.string s48]) h47 fun (v49 : Value) (h50 : Heap) =>
 ∃ (s51 : ByteArray), v49 = Value.string s51 ∧ I45 b16 s51 true h50)
 (SVC Tryz.prog (Instr.makeSlice (22 : Nat) (Value.int IntKind.i64 (512 : Int)) (Value.int IntKind.i64 (512 : Int))) h21
 fun (v52 : Value) (h53 : Heap) =>
 ∃ (a54 : Option Addr),
 ∃ (k55 : Nat),
 ∃ (k56 : Nat),
 v52 = Value.slice a54 k55 k56 ∧
 ∃ (s57 : ByteArray),
 Reads Tryz.prog (convert (22 : Nat) (9 : Nat) (Value.slice a54 k55 k56)) h53 (Value.string s57) ∧
 (↑(s3.size + s57.size) : Int) ≤ IntKind.i64.max ∧
 HC Tryz.prog (15 : Nat) (Array.mk [Value.string (s3 ++ s57)]) h53 fun (v58 : Value) (h59 : Heap) =>
 ∃ (a60 : Option Addr),
 ∃ (k61 : Nat),
 ∃ (k62 : Nat),
 ∃ (s63 : ByteArray),
 v58 = Value.tuple (Array.mk [Value.slice a60 k61 k62, Value.string s63]) ∧
 br (decide ((↑k61 : Int) > (0 : Int))) (R (Value.bool true) h59) (I45 b16 s3 false h59))) ∧
 ∀ (b64 : Bool) (s65 : ByteArray) (b66 : Bool) (h67 : Heap),
 I45 b64 s65 b66 h67 →
 HC Tryz.prog (16 : Nat) (Array.mk [Value.int IntKind.i64 (100 : Int)]) h67 fun (v68 : Value) (h69 : Heap) =>
 ∃ (a70 : Option Addr),
 v68 = Value.pointer a70 ∧
 ∃ (I71 : Int → Heap → Prop),
 ∃ (I72 : Int → Heap → Nat),
 I71 (0 : Int) h69 ∧
 ∀ (n73 : Int) (h74 : Heap),
 I71 n73 h74 →
 br (n73 == (0 : Int) || decide (IntKind.i64.wrap ((512 : Int) * n73) < (↑s65.size : Int)))
 (∃ (n75 : Int),
 Reads Tryz.prog
 (Builtin.min_ (Array.mk [(3 : Nat), (3 : Nat)]) (3 : Nat)
 (Array.mk
 [Value.int IntKind.i64 (IntKind.i64.wrap (IntKind.i64.wrap ((512 : Int) * n73) + (512 : Int))),
 Value.int IntKind.i64 (↑s65.size : Int)]))
 h74 (Value.int IntKind.i64 n75) ∧
 ((0 : Int) ≤ IntKind.i64.wrap ((512 : Int) * n73) ∧ IntKind.i64.wrap ((512 : Int) * n73) ≤ n75 ∧ n75 ≤ (↑s65.size : Int)) ∧
 SVC Tryz.prog
 (convert (9 : Nat) (22 : Nat) (Value.string (s65.extract (IntKind.i64.wrap ((512 : Int) * n73)).toNat n75.toNat))) h74
 fun (v76 : Value) (h77 : Heap) =>
 ∃ (a78 : Option Addr),
 ∃ (k79 : Nat),
 ∃ (k80 : Nat),
 v76 = Value.slice a78 k79 k80 ∧
 HC Tryz.prog (17 : Nat)
 (Array.mk
 [Value.pointer a70, Value.string (ByteArray.mk (Array.mk [(102 : UInt8), (45 : UInt8), (106 : UInt8)])),
 Value.int IntKind.i64 n73, Value.slice a78 k79 k80])
 h77 fun (v81 : Value) (h82 : Heap) =>
 ∃ (n83 : Int),
 v81 = Value.int IntKind.i64 n83 ∧
 SVC Tryz.prog
 (Instr.buildSlice (22 : Nat) (1 : Nat) (Array.mk [((0 : Nat), Value.int IntKind.u8 (120 : Int))])) h82
 fun (v84 : Value) (h85 : Heap) =>
 ∃ (a86 : Option Addr),
 ∃ (k87 : Nat),
 ∃ (k88 : Nat),
 v84 = Value.slice a86 k87 k88 ∧
 SVC Tryz.prog (convert (22 : Nat) (22 : Nat) (Value.slice a86 k87 k88)) h85
 fun (v89 : Value) (h90 : Heap) =>
 ∃ (a91 : Option Addr),
 ∃ (k92 : Nat),
 ∃ (k93 : Nat),
 v89 = Value.slice a91 k92 k93 ∧
 HC Tryz.prog (17 : Nat)
 (Array.mk
 [Value.pointer a70,
 Value.string
 (ByteArray.mk (Array.mk [(102 : UInt8), (45 : UInt8), (116 : UInt8)])),
 Value.int IntKind.i64 n73, Value.slice a91 k92 k93])
 h90 fun (v94 : Value) (h95 : Heap) =>
 ∃ (n96 : Int),
 v94 = Value.int IntKind.i64 n96 ∧
 I71 (IntKind.i64.wrap (n73 + (1 : Int))) h95 ∧
 I72 (IntKind.i64.wrap (n73 + (1 : Int))) h95 < I72 n73 h74)
 (HC Tryz.prog (18 : Nat) (Array.mk [Value.pointer a70, Value.string (ByteArray.mk (Array.mk [(102 : UInt8)]))]) h74
 fun (v97 : Value) (h98 : Heap) =>
 ∃ (a99 : Option Addr),
 ∃ (n100 : Int),
 v97 = Value.tuple (Array.mk [Value.pointer a99, Value.int IntKind.i64 n100]) ∧
 br (!b66)
 (∃ (b101 : Bool),
 ((n100 == (4 : Int)) = true →
 Reads Tryz.prog
 (eqSem BinOp.eql (36 : Nat) (Operand.tmp (118 : Nat)) (Operand.const (Value.pointer none)) (Value.pointer a99)
 (Value.pointer none))
 h98 (Value.bool b101)) ∧
 R (Value.bool (n100 == (4 : Int) && b101)) h98)
 (br (decide (n100 = (0 : Int)))
 (HC Tryz.prog (19 : Nat) (Array.mk [Value.pointer a99, Value.slice a17 k18 k19]) h98
 fun (v102 : Value) (h103 : Heap) =>
 ∃ (b104 : Bool),
 v102 = Value.bool b104 ∧
 br b104
 (HC Tryz.prog (20 : Nat) (Array.mk [Value.pointer a70]) h103 fun (v105 : Value) (h106 : Heap) =>
 ∃ (a107 : Option Addr),
 ∃ (k108 : Nat),
 ∃ (k109 : Nat), v105 = Value.slice a107 k108 k109 ∧ R (Value.bool ((↑k108 : Int) == (1 : Int))) h106)
 (R (Value.bool false) h103))
 (R (Value.bool false) h98))))))) := by kernel_rfl

theorem vcPgLoses (A : Option Addr) (n c : Nat) (B : Option Addr) (m d : Nat) (h : Heap) (R : Value → Heap → Prop) :
    vcF Tryz.prog Tryz.f4 148 [28,36] [] [.slice A n c, .slice B m d] h R =
(HC Tryz.prog (11 : Nat) (Array.mk []) h fun (v0 : Value) (h1 : Heap) =>
 ∃ (b2 : Bool),
 v0 = Value.bool b2 ∧
 br (!b2) (R (Value.bool false) h1)
 (HC Tryz.prog (21 : Nat) (Array.mk [Value.slice A n c]) h1 fun (v3 : Value) (h4 : Heap) =>
 ∃ (b5 : Bool),
 v3 = Value.bool b5 ∧
 br (b5 || decide ((↑m : Int) > (20 : Int))) (R (Value.bool true) h4)
 (HC Tryz.prog (16 : Nat) (Array.mk [Value.int IntKind.i64 (200 : Int)]) h4 fun (v6 : Value) (h7 : Heap) =>
 ∃ (a8 : Option Addr),
 v6 = Value.pointer a8 ∧
 HC Tryz.prog (18 : Nat) (Array.mk [Value.pointer a8, Value.string (ByteArray.mk (Array.mk [(102 : UInt8)]))]) h7 fun (v9 : Value) (h10 : Heap) =>
 ∃ (a11 : Option Addr),
 ∃ (n12 : Int),
 v9 = Value.tuple (Array.mk [Value.pointer a11, Value.int IntKind.i64 n12]) ∧
 br (n12 != (0 : Int)) (R (Value.bool false) h10)
 (∃ (I13 : Bool → Option Addr → Option Addr → Nat → Nat → Int → Int → Heap → Prop),
 ∃ (I14 : Bool → Option Addr → Option Addr → Nat → Nat → Int → Int → Heap → Nat),
 I13 false a11 none (0 : Nat) (0 : Nat) (0 : Int) (0 : Int) h10 ∧
 ∀ (b15 : Bool) (a16 a17 : Option Addr) (k18 k19 : Nat) (n20 n21 : Int) (h22 : Heap),
 I13 b15 a16 a17 k18 k19 n20 n21 h22 →
 br (decide (n21 < (↑n : Int)))
 (∃ (p23 : Addr),
 (A = some p23 ∧ (0 : Int) ≤ n21 ∧ n21 < (↑n : Int)) ∧
 ∃ (a24 : Option Addr),
 ∃ (k25 : Nat),
 ∃ (k26 : Nat),
 ∃ (n27 : Int),
 ∃ (n28 : Int),
 Reads Tryz.prog (Instr.loadAt (47 : Nat) (Value.pointer (some (p23.add (n21.toNat * (3 : Nat)))))) h22
 (Value.agg (Array.mk [Value.slice a24 k25 k26, Value.int IntKind.i64 n27, Value.int IntKind.u64 n28])) ∧
 SVC Tryz.prog
 (Instr.storeAt (47 : Nat) (Value.pointer (some (Addr.mk (Array.size h22) (0 : Nat) none)))
 (Value.agg (Array.mk [Value.slice a24 k25 k26, Value.int IntKind.i64 n27, Value.int IntKind.u64 n28])))
 (Array.push h22
 (Obj.cells (Array.mk [Value.slice none (0 : Nat) (0 : Nat), Value.int IntKind.i64 (0 : Int), Value.int IntKind.u64 (0 : Int)])
 (47 : Nat)))
 fun (x29 : Unit) (h30 : Heap) =>
 ∃ (a31 : Option Addr),
 ∃ (k32 : Nat),
 ∃ (k33 : Nat),
 ∃ (n34 : Int),
 ∃ (n35 : Int),
 Reads Tryz.prog (Instr.loadAt (47 : Nat) (Value.pointer (some (Addr.mk (Array.size h22) (0 : Nat) none)))) h30
 (Value.agg (Array.mk [Value.slice a31 k32 k33, Value.int IntKind.i64 n34, Value.int IntKind.u64 n35])) ∧
 HC Tryz.prog (22 : Nat)
 (Array.mk [Value.agg (Array.mk [Value.slice a31 k32 k33, Value.int IntKind.i64 n34, Value.int IntKind.u64 n35])]) h30
 fun (v36 : Value) (h37 : Heap) =>
 ∃ (a38 : Option Nat),
 ∃ (a39 : Option Addr),
 ∃ (k40 : Nat),
 ∃ (k41 : Nat),
 v36 = Value.tuple (Array.mk [Value.map a38, Value.slice a39 k40 k41]) ∧
 HC Tryz.prog (24 : Nat) (Array.mk [Value.pointer a8]) h37 fun (v42 : Value) (h43 : Heap) =>
 ∃ (n44 : Int),
 v42 = Value.int IntKind.i64 n44 ∧
 HC Tryz.prog (23 : Nat)
 (Array.mk [Value.slice a39 k40 k41, Value.int IntKind.i64 (↑k18 : Int), Value.int IntKind.i64 n44]) h43
 fun (v45 : Value) (h46 : Heap) =>
 ∃ (n47 : Int),
 v45 = Value.int IntKind.i64 n47 ∧
 br (n47 != (0 : Int))
 (I13 b15 a16 a17 k18 k19 n20 (IntKind.i64.wrap (n21 + (1 : Int))) h46 ∧
 I14 b15 a16 a17 k18 k19 n20 (IntKind.i64.wrap (n21 + (1 : Int))) h46 <
 I14 b15 a16 a17 k18 k19 n20 n21 h22)
 (∃ (n48 : Int),
 Reads Tryz.prog
 (Instr.loadAt (3 : Nat)
 (Value.pointer (some ((Addr.mk (Array.size h22) (0 : Nat) none).add (1 : Nat)))))
 h46 (Value.int IntKind.i64 n48) ∧
 ∃ (n49 : Int),
 Reads Tryz.prog
 (Instr.loadAt (45 : Nat)
 (Value.pointer (some ((Addr.mk (Array.size h22) (0 : Nat) none).add (2 : Nat)))))
 h46 (Value.int IntKind.u64 n49) ∧
 HC Tryz.prog (25 : Nat)
 (Array.mk [Value.pointer a8, Value.int IntKind.i64 n48, Value.int IntKind.u64 n49]) h46
 fun (v50 : Value) (h51 : Heap) =>
 v50 = Value.tuple (Array.mk []) ∧
 HC Tryz.prog (26 : Nat) (Array.mk [Value.slice a17 k18 k19, Value.slice a39 k40 k41])
 h51 fun (v52 : Value) (h53 : Heap) =>
 ∃ (a54 : Option Addr),
 ∃ (k55 : Nat),
 ∃ (k56 : Nat),
 v52 = Value.slice a54 k55 k56 ∧
 HC Tryz.prog (27 : Nat) (Array.mk [Value.pointer a16, Value.map a38]) h53
 fun (v57 : Value) (h58 : Heap) =>
 ∃ (n59 : Int),
 v57 = Value.int IntKind.i64 n59 ∧
 br (n59 == (0 : Int))
 (HC Tryz.prog (25 : Nat)
 (Array.mk
 [Value.pointer a8, Value.int IntKind.i64 (0 : Int),
 Value.int IntKind.u64 (0 : Int)])
 h58 fun (v60 : Value) (h61 : Heap) =>
 v60 = Value.tuple (Array.mk []) ∧
 I13 b15 a16 a54 k55 k56 n20 (IntKind.i64.wrap (n21 + (1 : Int)))
 h61 ∧
 I14 b15 a16 a54 k55 k56 n20 (IntKind.i64.wrap (n21 + (1 : Int)))
 h61 <
 I14 b15 a16 a17 k18 k19 n20 n21 h22)
 (br
 (bif bif n59 == (8 : Int) then false else true then false else true)
 (HC Tryz.prog (28 : Nat) (Array.mk [Value.pointer a8]) h58
 fun (v62 : Value) (h63 : Heap) =>
 ∃ (b64 : Bool),
 v62 = Value.bool b64 ∧
 br (!b64) (R (Value.bool false) h63)
 (∃ (I65 : Bool → Option Addr → Int → Int → Heap → Prop),
 ∃ (I66 : Bool → Option Addr → Int → Int → Heap → Nat),
 I65 b15 a16 n20 n59 h63 ∧
 ∀ (b67 : Bool) (a68 : Option Addr) (n69 n70 : Int)
 (h71 : Heap),
 I65 b67 a68 n69 n70 h71 →
 HC Tryz.prog (29 : Nat)
 (Array.mk [Value.pointer a8]) h71
 fun (v72 : Value) (h73 : Heap) =>
 v72 = Value.tuple (Array.mk []) ∧
 HC Tryz.prog (25 : Nat)
 (Array.mk
 [Value.pointer a8,
 Value.int IntKind.i64 (0 : Int),
 Value.int IntKind.u64 (0 : Int)])
 h73 fun (v74 : Value) (h75 : Heap) =>
 v74 = Value.tuple (Array.mk []) ∧
 ∃ (I76 : Heap → Prop),
 br (decide (n69 < (↑m : Int)))
 (∃ (p77 : Addr),
 (B = some p77 ∧
 (0 : Int) ≤ n69 ∧
 n69 < (↑m : Int)) ∧
 ∃ (n78 : Int),
 Reads Tryz.prog
 (Instr.loadAt (3 : Nat)
 (Value.pointer
 (some
 (p77.add
 (n69.toNat *
 (1 : Nat))))))
 h75
 (Value.int IntKind.i64
 n78) ∧
 ∃ (n79 : Int),
 Reads Tryz.prog
 (Instr.loadAt
 (45 : Nat)
 (Value.pointer
 (some
 ((Addr.mk
 (Array.size
 h22)
 (0 : Nat)
 none).add
 (2 : Nat)))))
 h75
 (Value.int IntKind.u64
 n79) ∧
 HC Tryz.prog (25 : Nat)
 (Array.mk
 [Value.pointer a8,
 Value.int
 IntKind.i64 n78,
 Value.int
 IntKind.u64
 n79])
 h75
 fun (v80 : Value)
 (h81 : Heap) =>
 v80 =
 Value.tuple
 (Array.mk []) ∧
 I76 h81)
 (I76 h75) ∧
 ∀ (h82 : Heap),
 I76 h82 →
 HC Tryz.prog (18 : Nat)
 (Array.mk
 [Value.pointer a8,
 Value.string
 (ByteArray.mk
 (Array.mk
 [(102 : UInt8)]))])
 h82
 fun (v83 : Value)
 (h84 : Heap) =>
 ∃ (a85 : Option Addr),
 ∃ (n86 : Int),
 v83 =
 Value.tuple
 (Array.mk
 [Value.pointer a85,
 Value.int
 IntKind.i64
 n86]) ∧
 br (n86 == (0 : Int))
 (HC Tryz.prog (25 : Nat)
 (Array.mk
 [Value.pointer a8,
 Value.int
 IntKind.i64
 (0 : Int),
 Value.int
 IntKind.u64
 (0 : Int)])
 h84
 fun (v87 : Value)
 (h88 : Heap) =>
 v87 =
 Value.tuple
 (Array.mk []) ∧
 ∃ (I89 :
 Option Addr →
 Nat →
 Nat →
 Heap →
 Prop),
 (HC Tryz.prog
 (30 : Nat)
 (Array.mk
 [Value.pointer
 a85])
 h88
 fun
 (v90 :
 Value)
 (h91 :
 Heap) =>
 ∃ (n92 : Int),
 v90 =
 Value.int
 IntKind.i64
 n92 ∧
 br
 (decide
 (n92 =
 (↑k55 :
 Int)))
 (HC
 Tryz.prog
 (19 :
 Nat)
 (Array.mk
 [Value.pointer
 a85,
 Value.slice
 a54
 k55
 k56])
 h91
 fun
 (v93 :
 Value)
 (h94 :
 Heap) =>
 ∃ (b95
 :
 Bool),
 v93 =
 Value.bool
 b95 ∧
 br
 b95
 (I89
 a54
 k55
 k56
 h94)
 (I89
 a17
 k18
 k19
 h94))
 (I89 a17
 k18
 k19
 h91)) ∧
 ∀
 (a96 :
 Option Addr)
 (k97 k98 :
 Nat)
 (h99 : Heap),
 I89 a96 k97
 k98 h99 →
 HC Tryz.prog
 (19 : Nat)
 (Array.mk
 [Value.pointer
 a85,
 Value.slice
 a96
 k97
 k98])
 h99
 fun
 (v100 :
 Value)
 (h101 :
 Heap) =>
 ∃ (b102 :
 Bool),
 v100 =
 Value.bool
 b102 ∧
 br
 (!b102)
 (R
 (Value.bool
 false)
 h101)
 (I13
 b67
 a85
 a96
 k97
 k98
 (IntKind.i64.wrap
 (n69 +
 (1 :
 Int)))
 (IntKind.i64.wrap
 (n21 +
 (1 :
 Int)))
 h101 ∧
 I14
 b67
 a85
 a96
 k97
 k98
 (IntKind.i64.wrap
 (n69 +
 (1 :
 Int)))
 (IntKind.i64.wrap
 (n21 +
 (1 :
 Int)))
 h101 <
 I14
 b15
 a16
 a17
 k18
 k19
 n20
 n21
 h22))
 (br
 (n86 != (8 : Int) ||
 decide
 (IntKind.i64.wrap
 (n69 +
 (1 : Int)) >
 (↑m : Int)))
 (R (Value.bool false)
 h84)
 (I65 b67 a85
 (IntKind.i64.wrap
 (n69 +
 (1 : Int)))
 n86 h84 ∧
 I66 b67 a85
 (IntKind.i64.wrap
 (n69 +
 (1 : Int)))
 n86 h84 <
 I66 b67 a68 n69
 n70 h71))))
 (R (Value.bool false) h58))))
 (HC Tryz.prog (31 : Nat) (Array.mk [Value.pointer a8, Value.int IntKind.u64 (0 : Int)]) h22 fun (v103 : Value) (h104 : Heap) =>
 v103 = Value.tuple (Array.mk []) ∧
 HC Tryz.prog (29 : Nat) (Array.mk [Value.pointer a8]) h104 fun (v105 : Value) (h106 : Heap) =>
 v105 = Value.tuple (Array.mk []) ∧
 HC Tryz.prog (18 : Nat) (Array.mk [Value.pointer a8, Value.string (ByteArray.mk (Array.mk [(102 : UInt8)]))]) h106
 fun (v107 : Value) (h108 : Heap) =>
 ∃ (a109 : Option Addr),
 ∃ (n110 : Int),
 v107 = Value.tuple (Array.mk [Value.pointer a109, Value.int IntKind.i64 n110]) ∧
 br (decide (n110 = (0 : Int)))
 (HC Tryz.prog (19 : Nat) (Array.mk [Value.pointer a109, Value.slice a17 k18 k19]) h108 fun (v111 : Value) (h112 : Heap) =>
 ∃ (b113 : Bool),
 v111 = Value.bool b113 ∧
 br b113
 (HC Tryz.prog (20 : Nat) (Array.mk [Value.pointer a8]) h112 fun (v114 : Value) (h115 : Heap) =>
 ∃ (a116 : Option Addr),
 ∃ (k117 : Nat), ∃ (k118 : Nat), v114 = Value.slice a116 k117 k118 ∧ R (Value.bool (decide ((↑k117 : Int) ≤ (1 : Int)))) h115)
 (R (Value.bool false) h112))
 (R (Value.bool false) h108)))))) := by kernel_rfl
end Go.Proofs.YthkhaobmhheoaaaGreat
end
