/-
  Texts of this seat, laid one behind the other: C2g PgU CdT LsA LsB PgB PgE LsC LsI LsD LsE Ls1 DkNm LmA Ls0 LmL KvM KvN LmM Ls2. Conditions: none.
-/
import Derived.Test.YtkhinnchplahlaaGreatDoorU2
import Derived.Test.YtkhinnchplahlaaGreatDoorProg
import Derived.KernelRfl
import Derived.Lib.Atoi
import Derived.Lib.ItoaNum
set_option linter.unusedVariables false
set_option linter.unusedSimpArgs false
set_option linter.unusedSectionVars false
section
set_option maxRecDepth 100000
namespace Go.Proofs.YtkhinnchplahlaaGreatDoor
open Go Go.Vc Go.Proofs

theorem vcFail (r : Nat) (h : Heap) (R : Value → Heap → Prop) :
    vcF Tryz.prog Tryz.f133 10 [] [] [.pointer (some ⟨r, 0, none⟩)] h R =
(∃ (b0 : Bool),
 Reads Tryz.prog (eqSem BinOp.neq 159 (Operand.tmp 2) (Operand.const (.pointer none)) (.pointer (some (Addr.mk r 0 none))) (.pointer none)) h (.bool b0) ∧
 br b0
 (∃ (p1 : Addr),
 some (Addr.mk r 0 none) = some p1 ∧
 SVC Tryz.prog (Instr.storeAt 4 (.pointer (some (p1.add 1))) (.bool true)) h fun (x2 : Unit) (h3 : Heap) =>
 ∃ (p4 : Addr),
 some (Addr.mk r 0 none) = some p4 ∧
 SVC Tryz.prog (Instr.storeAt 146 (.pointer (some p4)) (.slice none 0 0)) h3 fun (x5 : Unit) (h6 : Heap) => R (.tuple (Array.mk [])) h6)
 (R (.tuple (Array.mk [])) h)) := by kernel_rfl

theorem vcRdUint (r : Nat) (h : Heap) (R : Value → Heap → Prop) :
    vcF Tryz.prog Tryz.f87 56 [] [] [.pointer (some ⟨r, 0, none⟩)] h R =
(∃ (b0 : Bool),
 Reads Tryz.prog (eqSem BinOp.eql 159 (Operand.tmp 6) (Operand.const (.pointer none)) (.pointer (some (Addr.mk r 0 none))) (.pointer none)) h (.bool b0) ∧
 br b0 (R (.int .u64 (0 : Int)) h)
 (∃ (p1 : Addr),
 some (Addr.mk r 0 none) = some p1 ∧
 ∃ (a2 : Option Addr),
 ∃ (k3 : Nat),
 ∃ (k4 : Nat),
 Reads Tryz.prog (Instr.loadAt 146 (.pointer (some p1))) h (.slice a2 k3 k4) ∧
 ∃ (I5 : Int → Int → Int → Heap → Prop),
 ∃ (I6 : Int → Int → Int → Heap → Nat),
 I5 (0 : Int) (0 : Int) (0 : Int) h ∧
 ∀ (n7 n8 n9 : Int) (h10 : Heap),
 I5 n7 n8 n9 h10 →
 br (decide (n9 < (↑k3 : Int)))
 (∃ (p11 : Addr),
 (a2 = some p11 ∧ (0 : Int) ≤ n9 ∧ n9 < (↑k3 : Int)) ∧
 ∃ (n12 : Int),
 Reads Tryz.prog (Instr.loadAt 5 (.pointer (some (p11.add (n9.toNat * 1))))) h10 (.int .u8 n12) ∧
 br (n9 == (9 : Int) && decide (n12 > (1 : Int)) || decide (n9 > (0 : Int)) && n12 == (0 : Int))
 (HC Tryz.prog 133 (Array.mk [.pointer (some (Addr.mk r 0 none))]) h10 fun (v13 : Value) (h14 : Heap) =>
 v13 = .tuple (Array.mk []) ∧ R (.int .u64 (0 : Int)) h14)
 ((0 : Int) ≤ IntKind.i64.wrap ((7 : Int) * n9) ∧
 br (decide (n12 < (128 : Int)))
 (∃ (p15 : Addr),
 some (Addr.mk r 0 none) = some p15 ∧
 ∃ (a16 : Option Addr),
 ∃ (k17 : Nat),
 ∃ (k18 : Nat),
 Reads Tryz.prog (Instr.loadAt 146 (.pointer (some p15))) h10 (.slice a16 k17 k18) ∧
 ((0 : Int) ≤ IntKind.i64.wrap (n9 + (1 : Int)) ∧
 IntKind.i64.wrap (n9 + (1 : Int)) ≤ (↑k17 : Int) ∧ (↑k17 : Int) ≤ (↑k18 : Int) ∧ (↑k18 : Int) ≤ (↑k18 : Int)) ∧
 ∃ (p19 : Addr),
 some (Addr.mk r 0 none) = some p19 ∧
 SVC Tryz.prog
 (Instr.storeAt 146 (.pointer (some p19))
 (.slice (subA a16 (IntKind.i64.wrap (n9 + (1 : Int))).toNat k18 1) (k17 - (IntKind.i64.wrap (n9 + (1 : Int))).toNat)
 (k18 - (IntKind.i64.wrap (n9 + (1 : Int))).toNat)))
 h10 fun (x20 : Unit) (h21 : Heap) =>
 R
 (.int .u64
 (IntKind.u64.wrap
 (↑(BitVec.ofInt 64 n8 |||
 BitVec.ofInt 64
 (IntKind.u64.wrap
 (IntKind.u64.wrap
 (IntKind.u8.wrap (↑(BitVec.ofInt 8 n12 &&& BitVec.ofInt 8 (127 : Int)).toNat : Int)) *
 (2 : Int) ^ min (IntKind.i64.wrap ((7 : Int) * n9)).toNat 64))).toNat :
 Int)))
 h21)
 (I5 n7
 (IntKind.u64.wrap
 (↑(BitVec.ofInt 64 n8 |||
 BitVec.ofInt 64
 (IntKind.u64.wrap
 (IntKind.u64.wrap (IntKind.u8.wrap (↑(BitVec.ofInt 8 n12 &&& BitVec.ofInt 8 (127 : Int)).toNat : Int)) *
 (2 : Int) ^ min (IntKind.i64.wrap ((7 : Int) * n9)).toNat 64))).toNat :
 Int))
 (IntKind.i64.wrap (n9 + (1 : Int))) h10 ∧
 I6 n7
 (IntKind.u64.wrap
 (↑(BitVec.ofInt 64 n8 |||
 BitVec.ofInt 64
 (IntKind.u64.wrap
 (IntKind.u64.wrap (IntKind.u8.wrap (↑(BitVec.ofInt 8 n12 &&& BitVec.ofInt 8 (127 : Int)).toNat : Int)) *
 (2 : Int) ^ min (IntKind.i64.wrap ((7 : Int) * n9)).toNat 64))).toNat :
 Int))
 (IntKind.i64.wrap (n9 + (1 : Int))) h10 <
 I6 n7 n8 n9 h10)))
 (HC Tryz.prog 133 (Array.mk [.pointer (some (Addr.mk r 0 none))]) h10 fun (v22 : Value) (h23 : Heap) =>
 v22 = .tuple (Array.mk []) ∧ R (.int .u64 (0 : Int)) h23))) := by kernel_rfl

theorem vcRdInt (r : Nat) (h : Heap) (R : Value → Heap → Prop) :
    vcF Tryz.prog Tryz.f132 14 [] [] [.pointer (some ⟨r, 0, none⟩)] h R =
(HC Tryz.prog 87 (Array.mk [.pointer (some (Addr.mk r 0 none))]) h fun (v0 : Value) (h1 : Heap) =>
 ∃ (n2 : Int),
 v0 = .int .u64 n2 ∧
 (0 : Int) ≤ (1 : Int) ∧
 R
 (.int .i64
 (IntKind.i64.wrap
 (↑(BitVec.ofInt 64 (IntKind.i64.wrap (n2.fdiv ((2 : Int) ^ 1))) ^^^
 BitVec.ofInt 64
 (IntKind.i64.wrap ((0 : Int) - IntKind.i64.wrap (IntKind.u64.wrap (↑(BitVec.ofInt 64 n2 &&& BitVec.ofInt 64 (1 : Int)).toNat : Int))))).toNat :
 Int)))
 h1) := by kernel_rfl

theorem vcRdIn (r : Nat) (lo hi : Int) (h : Heap) (R : Value → Heap → Prop) :
    vcF Tryz.prog Tryz.f85 28 [4] [] [.pointer (some ⟨r, 0, none⟩), .int .i64 lo, .int .i64 hi] h R =
(HC Tryz.prog 132 (Array.mk [.pointer (some (Addr.mk r 0 none))]) h fun (v0 : Value) (h1 : Heap) =>
 ∃ (n2 : Int),
 v0 = .int .i64 n2 ∧
 ∃ (I3 : Heap → Prop),
 (HC Tryz.prog 88 (Array.mk [.pointer (some (Addr.mk r 0 none))]) h1 fun (v4 : Value) (h5 : Heap) =>
 ∃ (b6 : Bool),
 v4 = .bool b6 ∧
 br (b6 && (decide (n2 < lo) || decide (n2 > hi)))
 (HC Tryz.prog 133 (Array.mk [.pointer (some (Addr.mk r 0 none))]) h5 fun (v7 : Value) (h8 : Heap) => v7 = .tuple (Array.mk []) ∧ I3 h8) (I3 h5)) ∧
 ∀ (h9 : Heap),
 I3 h9 →
 HC Tryz.prog 88 (Array.mk [.pointer (some (Addr.mk r 0 none))]) h9 fun (v10 : Value) (h11 : Heap) =>
 ∃ (b12 : Bool), v10 = .bool b12 ∧ br (!b12) (R (.int .i64 (0 : Int)) h11) (R (.int .i64 n2) h11)) := by kernel_rfl

theorem vcRdTake (r : Nat) (n : Int) (h : Heap) (R : Value → Heap → Prop) :
    vcF Tryz.prog Tryz.f134 46 [] [] [.pointer (some ⟨r, 0, none⟩), .int .i64 n] h R =
(∃ (b0 : Bool),
 Reads Tryz.prog (eqSem BinOp.eql 159 (Operand.tmp 6) (Operand.const (.pointer none)) (.pointer (some (Addr.mk r 0 none))) (.pointer none)) h (.bool b0) ∧
 ∃ (p1 : Addr),
 ((!b0) = true → some (Addr.mk r 0 none) = some p1) ∧
 ∃ (b2 : Bool),
 ((!b0) = true → Reads Tryz.prog (Instr.loadAt 4 (.pointer (some (p1.add 1)))) h (.bool b2)) ∧
 ∃ (p3 : Addr),
 ((!(b0 || b2 || decide (n < (0 : Int)))) = true → some (Addr.mk r 0 none) = some p3) ∧
 ∃ (a4 : Option Addr),
 ∃ (k5 : Nat),
 ∃ (k6 : Nat),
 ((!(b0 || b2 || decide (n < (0 : Int)))) = true → Reads Tryz.prog (Instr.loadAt 146 (.pointer (some p3))) h (.slice a4 k5 k6)) ∧
 br (b0 || b2 || decide (n < (0 : Int)) || decide (n > (↑k5 : Int)))
 (HC Tryz.prog 133 (Array.mk [.pointer (some (Addr.mk r 0 none))]) h fun (v7 : Value) (h8 : Heap) =>
 v7 = .tuple (Array.mk []) ∧ R (.string (ByteArray.mk (Array.mk []))) h8)
 (∃ (p9 : Addr),
 some (Addr.mk r 0 none) = some p9 ∧
 ∃ (a10 : Option Addr),
 ∃ (k11 : Nat),
 ∃ (k12 : Nat),
 Reads Tryz.prog (Instr.loadAt 146 (.pointer (some p9))) h (.slice a10 k11 k12) ∧
 ((0 : Int) ≤ n ∧ n ≤ (↑k12 : Int) ∧ (↑k12 : Int) ≤ (↑k12 : Int)) ∧
 ∃ (s13 : ByteArray),
 Reads Tryz.prog (convert 146 9 (.slice a10 n.toNat k12)) h (.string s13) ∧
 ∃ (p14 : Addr),
 some (Addr.mk r 0 none) = some p14 ∧
 ∃ (a15 : Option Addr),
 ∃ (k16 : Nat),
 ∃ (k17 : Nat),
 Reads Tryz.prog (Instr.loadAt 146 (.pointer (some p14))) h (.slice a15 k16 k17) ∧
 ((0 : Int) ≤ n ∧ n ≤ (↑k16 : Int) ∧ (↑k16 : Int) ≤ (↑k17 : Int) ∧ (↑k17 : Int) ≤ (↑k17 : Int)) ∧
 ∃ (p18 : Addr),
 some (Addr.mk r 0 none) = some p18 ∧
 SVC Tryz.prog
 (Instr.storeAt 146 (.pointer (some p18)) (.slice (subA a15 n.toNat k17 1) (k16 - n.toNat) (k17 - n.toNat))) h
 fun (x19 : Unit) (h20 : Heap) => R (.string s13) h20)) := by kernel_rfl

theorem vcRdText (r : Nat) (n : Int) (h : Heap) (R : Value → Heap → Prop) :
    vcF Tryz.prog Tryz.f86 22 [] [] [.pointer (some ⟨r, 0, none⟩), .int .i64 n] h R =
(HC Tryz.prog 87 (Array.mk [.pointer (some (Addr.mk r 0 none))]) h fun (v0 : Value) (h1 : Heap) =>
 ∃ (n2 : Int),
 v0 = .int .u64 n2 ∧
 br (decide (n < (0 : Int)) || decide (n2 > IntKind.u64.wrap n))
 (HC Tryz.prog 133 (Array.mk [.pointer (some (Addr.mk r 0 none))]) h1 fun (v3 : Value) (h4 : Heap) =>
 v3 = .tuple (Array.mk []) ∧ R (.string (ByteArray.mk (Array.mk []))) h4)
 (HC Tryz.prog 134 (Array.mk [.pointer (some (Addr.mk r 0 none)), .int .i64 (IntKind.i64.wrap n2)]) h1 fun (v5 : Value) (h6 : Heap) =>
 ∃ (s7 : ByteArray), v5 = .string s7 ∧ R (.string s7) h6)) := by kernel_rfl

theorem vcRdGood (r : Nat) (h : Heap) (R : Value → Heap → Prop) :
    vcF Tryz.prog Tryz.f88 12 [] [] [.pointer (some ⟨r, 0, none⟩)] h R =
(∃ (b0 : Bool),
 Reads Tryz.prog (eqSem BinOp.neq 159 (Operand.tmp 3) (Operand.const (.pointer none)) (.pointer (some (Addr.mk r 0 none))) (.pointer none)) h (.bool b0) ∧
 ∃ (p1 : Addr),
 (b0 = true → some (Addr.mk r 0 none) = some p1) ∧
 ∃ (b2 : Bool), (b0 = true → Reads Tryz.prog (Instr.loadAt 4 (.pointer (some (p1.add 1)))) h (.bool b2)) ∧ R (.bool (b0 && !b2)) h) := by kernel_rfl

theorem vcRdEnd (r : Nat) (h : Heap) (R : Value → Heap → Prop) :
    vcF Tryz.prog Tryz.f89 13 [] [] [.pointer (some ⟨r, 0, none⟩)] h R =
(HC Tryz.prog 88 (Array.mk [.pointer (some (Addr.mk r 0 none))]) h fun (v0 : Value) (h1 : Heap) =>
 ∃ (b2 : Bool),
 v0 = .bool b2 ∧
 ∃ (p3 : Addr),
 (b2 = true → some (Addr.mk r 0 none) = some p3) ∧
 ∃ (a4 : Option Addr),
 ∃ (k5 : Nat),
 ∃ (k6 : Nat), (b2 = true → Reads Tryz.prog (Instr.loadAt 146 (.pointer (some p3))) h1 (.slice a4 k5 k6)) ∧ R (.bool (b2 && (↑k5 : Int) == (0 : Int))) h1) := by kernel_rfl

theorem vcCRead (A : Option Addr) (n c : Nat) (h : Heap) (R : Value → Heap → Prop) :
    vcF Tryz.prog Tryz.f84 7 [] [] [.slice A n c] h R =
(SVC Tryz.prog (Builtin.append_ (Array.mk [146, 146]) 146 (Array.mk [.slice none 0 0, .slice A n c])) h fun (v0 : Value) (h1 : Heap) =>
 ∃ (a2 : Option Addr),
 ∃ (k3 : Nat),
 ∃ (k4 : Nat),
 v0 = .slice a2 k3 k4 ∧ R (.pointer (some (Addr.mk (Array.size h1) 0 none))) (Array.push h1 (Obj.cells (Array.mk [.slice a2 k3 k4, .bool false]) 205))) := by kernel_rfl

theorem vcSize (x : Int) (h : Heap) (R : Value → Heap → Prop) :
    vcF Tryz.prog Tryz.f162 8 [] [] [.int .u64 x] h R =
(HC Tryz.prog 179 (Array.mk [.int .u64 (IntKind.u64.wrap (↑(BitVec.ofInt 64 x ||| BitVec.ofInt 64 (1 : Int)).toNat : Int))]) h fun (v0 : Value) (h1 : Heap) =>
 ∃ (n2 : Int), v0 = .int .i64 n2 ∧ (7 : Int) ≠ (0 : Int) ∧ R (.int .i64 (IntKind.i64.wrap ((IntKind.i64.wrap (n2 + (6 : Int))).tdiv (7 : Int)))) h1) := by kernel_rfl

theorem vcLen64 (x : Int) (h : Heap) (R : Value → Heap → Prop) :
    vcF Tryz.prog Tryz.f179 25 [4,7,10] [] [.int .u64 x] h R =
(∃ (I0 : Int → Int → Heap → Prop),
 br (decide (x ≥ (4294967296 : Int))) ((0 : Int) ≤ (32 : Int) ∧ I0 (x.fdiv ((2 : Int) ^ 32)) (32 : Int) h) (I0 x (0 : Int) h) ∧
 ∀ (n1 n2 : Int) (h3 : Heap),
 I0 n1 n2 h3 →
 ∃ (I4 : Int → Int → Heap → Prop),
 br (decide (n1 ≥ (65536 : Int))) ((0 : Int) ≤ (16 : Int) ∧ I4 (n1.fdiv ((2 : Int) ^ 16)) (IntKind.i64.wrap (n2 + (16 : Int))) h3) (I4 n1 n2 h3) ∧
 ∀ (n5 n6 : Int) (h7 : Heap),
 I4 n5 n6 h7 →
 ∃ (I8 : Int → Int → Heap → Prop),
 br (decide (n5 ≥ (256 : Int))) ((0 : Int) ≤ (8 : Int) ∧ I8 (n5.fdiv ((2 : Int) ^ 8)) (IntKind.i64.wrap (n6 + (8 : Int))) h7) (I8 n5 n6 h7) ∧
 ∀ (n9 n10 : Int) (h11 : Heap),
 I8 n9 n10 h11 →
 ((0 : Int) ≤ IntKind.u8.wrap n9 ∧ IntKind.u8.wrap n9 < (↑256 : Int)) ∧
 R
 (.int .i64
 (IntKind.i64.wrap
 (n10 +
 IntKind.i64.wrap
 (byteAt
 (ByteArray.mk
 (Array.mk
 [(0 : UInt8), (1 : UInt8), (2 : UInt8), (2 : UInt8), (3 : UInt8), (3 : UInt8), (3 : UInt8), (3 : UInt8), (4 : UInt8), (4 : UInt8), (4 : UInt8), (4 : UInt8),
 (4 : UInt8), (4 : UInt8), (4 : UInt8), (4 : UInt8), (5 : UInt8), (5 : UInt8), (5 : UInt8), (5 : UInt8), (5 : UInt8), (5 : UInt8), (5 : UInt8), (5 : UInt8),
 (5 : UInt8), (5 : UInt8), (5 : UInt8), (5 : UInt8), (5 : UInt8), (5 : UInt8), (5 : UInt8), (5 : UInt8), (6 : UInt8), (6 : UInt8), (6 : UInt8), (6 : UInt8),
 (6 : UInt8), (6 : UInt8), (6 : UInt8), (6 : UInt8), (6 : UInt8), (6 : UInt8), (6 : UInt8), (6 : UInt8), (6 : UInt8), (6 : UInt8), (6 : UInt8), (6 : UInt8),
 (6 : UInt8), (6 : UInt8), (6 : UInt8), (6 : UInt8), (6 : UInt8), (6 : UInt8), (6 : UInt8), (6 : UInt8), (6 : UInt8), (6 : UInt8), (6 : UInt8), (6 : UInt8),
 (6 : UInt8), (6 : UInt8), (6 : UInt8), (6 : UInt8), (7 : UInt8), (7 : UInt8), (7 : UInt8), (7 : UInt8), (7 : UInt8), (7 : UInt8), (7 : UInt8), (7 : UInt8),
 (7 : UInt8), (7 : UInt8), (7 : UInt8), (7 : UInt8), (7 : UInt8), (7 : UInt8), (7 : UInt8), (7 : UInt8), (7 : UInt8), (7 : UInt8), (7 : UInt8), (7 : UInt8),
 (7 : UInt8), (7 : UInt8), (7 : UInt8), (7 : UInt8), (7 : UInt8), (7 : UInt8), (7 : UInt8), (7 : UInt8), (7 : UInt8), (7 : UInt8), (7 : UInt8), (7 : UInt8),
 (7 : UInt8), (7 : UInt8), (7 : UInt8), (7 : UInt8), (7 : UInt8), (7 : UInt8), (7 : UInt8), (7 : UInt8), (7 : UInt8), (7 : UInt8), (7 : UInt8), (7 : UInt8),
 (7 : UInt8), (7 : UInt8), (7 : UInt8), (7 : UInt8), (7 : UInt8), (7 : UInt8), (7 : UInt8), (7 : UInt8), (7 : UInt8), (7 : UInt8), (7 : UInt8), (7 : UInt8),
 (7 : UInt8), (7 : UInt8), (7 : UInt8), (7 : UInt8), (7 : UInt8), (7 : UInt8), (7 : UInt8), (7 : UInt8), (8 : UInt8), (8 : UInt8), (8 : UInt8), (8 : UInt8),
 (8 : UInt8), (8 : UInt8), (8 : UInt8), (8 : UInt8), (8 : UInt8), (8 : UInt8), (8 : UInt8), (8 : UInt8), (8 : UInt8), (8 : UInt8), (8 : UInt8), (8 : UInt8),
 (8 : UInt8), (8 : UInt8), (8 : UInt8), (8 : UInt8), (8 : UInt8), (8 : UInt8), (8 : UInt8), (8 : UInt8), (8 : UInt8), (8 : UInt8), (8 : UInt8), (8 : UInt8),
 (8 : UInt8), (8 : UInt8), (8 : UInt8), (8 : UInt8), (8 : UInt8), (8 : UInt8), (8 : UInt8), (8 : UInt8), (8 : UInt8), (8 : UInt8), (8 : UInt8), (8 : UInt8),
 (8 : UInt8), (8 : UInt8), (8 : UInt8), (8 : UInt8), (8 : UInt8), (8 : UInt8), (8 : UInt8), (8 : UInt8), (8 : UInt8), (8 : UInt8), (8 : UInt8), (8 : UInt8),
 (8 : UInt8), (8 : UInt8), (8 : UInt8), (8 : UInt8), (8 : UInt8), (8 : UInt8), (8 : UInt8), (8 : UInt8), (8 : UInt8), (8 : UInt8), (8 : UInt8), (8 : UInt8),
 (8 : UInt8), (8 : UInt8), (8 : UInt8), (8 : UInt8), (8 : UInt8), (8 : UInt8), (8 : UInt8), (8 : UInt8), (8 : UInt8), (8 : UInt8), (8 : UInt8), (8 : UInt8),
 (8 : UInt8), (8 : UInt8), (8 : UInt8), (8 : UInt8), (8 : UInt8), (8 : UInt8), (8 : UInt8), (8 : UInt8), (8 : UInt8), (8 : UInt8), (8 : UInt8), (8 : UInt8),
 (8 : UInt8), (8 : UInt8), (8 : UInt8), (8 : UInt8), (8 : UInt8), (8 : UInt8), (8 : UInt8), (8 : UInt8), (8 : UInt8), (8 : UInt8), (8 : UInt8), (8 : UInt8),
 (8 : UInt8), (8 : UInt8), (8 : UInt8), (8 : UInt8), (8 : UInt8), (8 : UInt8), (8 : UInt8), (8 : UInt8), (8 : UInt8), (8 : UInt8), (8 : UInt8), (8 : UInt8),
 (8 : UInt8), (8 : UInt8), (8 : UInt8), (8 : UInt8), (8 : UInt8), (8 : UInt8), (8 : UInt8), (8 : UInt8), (8 : UInt8), (8 : UInt8), (8 : UInt8), (8 : UInt8),
 (8 : UInt8), (8 : UInt8), (8 : UInt8), (8 : UInt8)]))
 (IntKind.u8.wrap n9)))))
 h11) := by kernel_rfl

theorem vcNext (A : Option Addr) (n c : Nat) (h : Heap) (R : Value → Heap → Prop) :
    vcF Tryz.prog Tryz.f126 54 [] [] [.slice A n c] h R =
(HC Tryz.prog 84 (Array.mk [.slice A n c]) h fun (v0 : Value) (h1 : Heap) =>
 ∃ (a2 : Option Addr),
 v0 = .pointer a2 ∧
 HC Tryz.prog 86 (Array.mk [.pointer a2, .int .i64 (↑n : Int)]) h1 fun (v3 : Value) (h4 : Heap) =>
 ∃ (s5 : ByteArray),
 v3 = .string s5 ∧
 HC Tryz.prog 88 (Array.mk [.pointer a2]) h4 fun (v6 : Value) (h7 : Heap) =>
 ∃ (b8 : Bool),
 v6 = .bool b8 ∧
 br (!b8) (R (.tuple (Array.mk [.string (ByteArray.mk (Array.mk [])), .int .i64 (0 : Int), .bool false])) h7)
 (HC Tryz.prog 162 (Array.mk [.int .u64 (IntKind.u64.wrap (↑s5.size : Int))]) h7 fun (v9 : Value) (h10 : Heap) =>
 ∃ (n11 : Int),
 v9 = .int .i64 n11 ∧
 br (decide ((↑n : Int) < IntKind.i64.wrap (IntKind.i64.wrap (n11 + (↑s5.size : Int)) + (4 : Int))))
 (R (.tuple (Array.mk [.string (ByteArray.mk (Array.mk [])), .int .i64 (0 : Int), .bool false])) h10)
 (((0 : Int) ≤ IntKind.i64.wrap (n11 + (↑s5.size : Int)) ∧ IntKind.i64.wrap (n11 + (↑s5.size : Int)) ≤ (↑c : Int) ∧ (↑c : Int) ≤ (↑c : Int)) ∧
 HC Tryz.prog 135 (Array.mk [.slice A (IntKind.i64.wrap (n11 + (↑s5.size : Int))).toNat c]) h10 fun (v12 : Value) (h13 : Heap) =>
 ∃ (n14 : Int),
 v12 = .int .u32 n14 ∧
 ∃ (I15 : ByteArray → Int → Bool → Int → Heap → Prop),
 ∃ (I16 : ByteArray → Int → Bool → Int → Heap → Nat),
 I15 (ByteArray.mk (Array.mk [])) (0 : Int) false (0 : Int) h13 ∧
 ∀ (s17 : ByteArray) (n18 : Int) (b19 : Bool) (n20 : Int) (h21 : Heap),
 I15 s17 n18 b19 n20 h21 →
 br (decide (n20 < (4 : Int)))
 (∃ (p22 : Addr),
 (A = some p22 ∧
 (0 : Int) ≤ IntKind.i64.wrap (IntKind.i64.wrap (n11 + (↑s5.size : Int)) + n20) ∧
 IntKind.i64.wrap (IntKind.i64.wrap (n11 + (↑s5.size : Int)) + n20) < (↑n : Int)) ∧
 ∃ (n23 : Int),
 Reads Tryz.prog
 (Instr.loadAt 5
 (.pointer (some (p22.add ((IntKind.i64.wrap (IntKind.i64.wrap (n11 + (↑s5.size : Int)) + n20)).toNat * 1)))))
 h21 (.int .u8 n23) ∧
 (0 : Int) ≤ IntKind.i64.wrap ((8 : Int) * n20) ∧
 br (n23 != IntKind.u8.wrap (n14.fdiv ((2 : Int) ^ min (IntKind.i64.wrap ((8 : Int) * n20)).toNat 32)))
 (R (.tuple (Array.mk [.string (ByteArray.mk (Array.mk [])), .int .i64 (0 : Int), .bool false])) h21)
 (I15 s17 n18 b19 (IntKind.i64.wrap (n20 + (1 : Int))) h21 ∧
 I16 s17 n18 b19 (IntKind.i64.wrap (n20 + (1 : Int))) h21 < I16 s17 n18 b19 n20 h21))
 (R
 (.tuple
 (Array.mk [.string s5, .int .i64 (IntKind.i64.wrap (IntKind.i64.wrap (n11 + (↑s5.size : Int)) + (4 : Int))), .bool true]))
 h21)))) := by kernel_rfl

theorem vcSplit (A : Option Addr) (n c : Nat) (h : Heap) (R : Value → Heap → Prop) :
    vcF Tryz.prog Tryz.f78 28 [] [] [.slice A n c] h R =
(∃ (I0 : Option Addr → Nat → Nat → Int → Option Addr → Nat → Nat → Int → Heap → Prop),
 ∃ (I1 : Option Addr → Nat → Nat → Int → Option Addr → Nat → Nat → Int → Heap → Nat),
 I0 none 0 0 (0 : Int) none 0 0 (0 : Int) h ∧
 ∀ (a2 : Option Addr) (k3 k4 : Nat) (n5 : Int) (a6 : Option Addr) (k7 k8 : Nat) (n9 : Int) (h10 : Heap),
 I0 a2 k3 k4 n5 a6 k7 k8 n9 h10 →
 ((0 : Int) ≤ n9 ∧ n9 ≤ (↑n : Int) ∧ (↑n : Int) ≤ (↑c : Int) ∧ (↑c : Int) ≤ (↑c : Int)) ∧
 HC Tryz.prog 126 (Array.mk [.slice (subA A n9.toNat c 1) (n - n9.toNat) (c - n9.toNat)]) h10 fun (v11 : Value) (h12 : Heap) =>
 ∃ (s13 : ByteArray),
 ∃ (n14 : Int),
 ∃ (b15 : Bool),
 v11 = .tuple (Array.mk [.string s13, .int .i64 n14, .bool b15]) ∧
 br (!b15) (R (.tuple (Array.mk [.slice a6 k7 k8, .int .i64 n9])) h12)
 (SVC Tryz.prog (Instr.buildSlice 83 1 (Array.mk [(0, .string s13)])) h12 fun (v16 : Value) (h17 : Heap) =>
 ∃ (a18 : Option Addr),
 ∃ (k19 : Nat),
 ∃ (k20 : Nat),
 v16 = .slice a18 k19 k20 ∧
 SVC Tryz.prog (Builtin.append_ (Array.mk [83, 83]) 83 (Array.mk [.slice a6 k7 k8, .slice a18 k19 k20])) h17
 fun (v21 : Value) (h22 : Heap) =>
 ∃ (a23 : Option Addr),
 ∃ (k24 : Nat),
 ∃ (k25 : Nat),
 v21 = .slice a23 k24 k25 ∧
 I0 a2 k3 k4 n5 a23 k24 k25 (IntKind.i64.wrap (n9 + n14)) h22 ∧
 I1 a2 k3 k4 n5 a23 k24 k25 (IntKind.i64.wrap (n9 + n14)) h22 < I1 a2 k3 k4 n5 a6 k7 k8 n9 h10)) := by kernel_rfl

end Go.Proofs.YtkhinnchplahlaaGreatDoor
end

section
set_option maxRecDepth 100000
namespace Go.Proofs.YtkhinnchplahlaaGreatDoor
open Go Go.Vc Go.Proofs Go.Dk Go.Cd

theorem sl_drop {α : Type} {E : Enc α} {h : Heap} {A : Option Addr} {n c l : Nat} {xs : List α} (hs : Sl E h A n xs) (hl : l ≤ n) (hc : n ≤ c) : Sl E h (subA A l c E.sz) (n - l) (xs.drop l) := by
  have hx := hs.1
  refine ⟨by rw [List.length_drop]; omega, ?_⟩
  by_cases h0 : l = n
  · exact .inl (List.drop_eq_nil_of_le (by omega))
  · rcases hs.2 with rfl | ⟨p, rfl, hp⟩
    · simp at hx; omega
    · refine .inr ⟨p.add (l * E.sz), ?_, fun i x hi j v hv => ?_⟩
      · unfold subA; rw [if_neg (by omega)]; rfl
      · rw [List.getElem?_drop] at hi
        have := hp (l + i) x hi j v hv
        rw [Addr.add_add]
        have e : l * E.sz + (i * E.sz + j) = (l + i) * E.sz + j := by rw [Nat.add_mul]; omega
        rw [e]; exact this
theorem sl_take {α : Type} {E : Enc α} {h : Heap} {A : Option Addr} {n l : Nat} {xs : List α} (hs : Sl E h A n xs) (hl : l ≤ n) : Sl E h A l (xs.take l) := by
  have hx := hs.1
  refine ⟨by rw [List.length_take]; omega, ?_⟩
  rcases hs.2 with rfl | ⟨p, rfl, hp⟩
  · exact .inl (by simp)
  · exact .inr ⟨p, rfl, fun i x hi j v hv => by
      rw [List.getElem?_take] at hi
      split at hi
      · exact hp i x hi j v hv
      · cases hi⟩
theorem undRp : Tryz.prog.underlying 159 = some (.pointer (Tryz.prog.pointee 159)) := by kernel_rfl
theorem scBs : scT Tryz.prog 146 = true := by kernel_rfl
theorem szBs : szOf Tryz.prog 146 = some 1 := by kernel_rfl
structure RdP (N : Nat → Prop) (h : Heap) (r : Nat) (o : Rs) (A : Option Addr) (n c : Nat) : Prop where
  box : h[r]? = some (.cells #[.slice A n c, .bool o.isNone] 205 (0, 0))
  cap : n ≤ c
  lim : n ≤ 1099511627776
  sl : Sl ByteE h A n (o.getD [])
  ne : n ≠ 0 → ∀ q, blk A q → q ≠ r ∧ N q
  n : N r
def RdAt (N : Nat → Prop) (h : Heap) (r : Nat) (o : Rs) : Prop := ∃ A n c, RdP N h r o A n c
section
variable {N N' S : Nat → Prop} {h h' : Heap} {r : Nat} {o o' : Rs} {A : Option Addr} {n c : Nat}
theorem RdAt.updM (hr : RdAt N h r o) (u : UpdM S h h') (hs : ∀ q, N q → ¬ S q) : RdAt N h' r o := by
  obtain ⟨A, n, c, p⟩ := hr
  exact ⟨A, n, c, u.cells p.box (hs r p.n), p.cap, p.lim, p.sl.updM u fun h0 q hq => hs q (p.ne h0 q hq).2, p.ne, p.n⟩
theorem RdAt.keep (hr : RdAt N h r o) (k : Keep h.size h h') : RdAt N h' r o := hr.updM (S := fun _ => False) k.m fun _ _ => id
theorem RdAt.mono (hr : RdAt N h r o) (hs : ∀ q, N q → N' q) : RdAt N' h r o := by
  obtain ⟨A, n, c, p⟩ := hr
  exact ⟨A, n, c, p.box, p.cap, p.lim, p.sl, fun h0 q hq => ⟨(p.ne h0 q hq).1, hs q (p.ne h0 q hq).2⟩, hs r p.n⟩
theorem RdP.rb (p : RdP N h r o A n c) : Reads Tryz.prog (Instr.loadAt 146 (.pointer (some ⟨r, 0, none⟩))) h (.slice A n c) := reads_load scBs (cell_cells0 p.box rfl)
theorem RdP.rbad (p : RdP N h r o A n c) : Reads Tryz.prog (Instr.loadAt 4 (.pointer (some ((⟨r, 0, none⟩ : Addr).add 1)))) h (.bool o.isNone) := reads_load scB (cell_cells p.box rfl)
theorem rfail_spec (hr : RdAt N h r o) : HC Tryz.prog 133 #[.pointer (some ⟨r, 0, none⟩)] h fun v h' => RdAt N h' r none ∧ Upd (fun i => i = r) h h' ∧ v = .tuple #[] := by
  obtain ⟨A, n, c, p⟩ := hr
  refine HC_of_vc (args := [.pointer (some ⟨r, 0, none⟩)]) (base := 10) (cuts := []) (bigs := []) hm Tryz.func133 ?_
  rw [vcFail]
  refine ⟨_, reads_neq_nil undRp, br_intro (fun _ => ?_) fun e => by cases e⟩
  refine ⟨_, rfl, svc_store_box (k := 1) szB p.box (by simp) rfl (one_bool _) fun h3 z3 b3 u3 => ⟨_, rfl, ?_⟩⟩
  have b3' : h3[r]? = some (.cells #[.slice A n c, .bool true] 205 (0, 0)) := by simpa using b3
  have sv := svc_store_box (P := Tryz.prog) (t := 146) (v := .slice none 0 0) (K := fun _ h' => RdAt N h' r none ∧ Upd (fun i => i = r) h h' ∧ Value.tuple #[] = .tuple #[]) (k := 0) szBs b3' (by simp) rfl (one_slice _ _ _) fun h6 z6 b6 u6 =>
    ⟨⟨none, 0, 0, by simpa using b6, Nat.le_refl _, Nat.zero_le _, Sl.nil _ _, fun h0 => absurd rfl h0, p.n⟩, u3.trans u6, rfl⟩
  rwa [Addr.add_row] at sv
theorem rgood_spec (hr : RdAt N h r o) : HC Tryz.prog 88 #[.pointer (some ⟨r, 0, none⟩)] h fun v h' => h' = h ∧ v = .bool o.isSome := by
  obtain ⟨A, n, c, p⟩ := hr
  refine HC_of_vc (args := [.pointer (some ⟨r, 0, none⟩)]) (base := 12) (cuts := []) (bigs := []) hm Tryz.func88 ?_
  rw [vcRdGood]
  refine ⟨_, reads_neq_nil undRp, _, fun _ => rfl, _, fun _ => p.rbad, rfl, ?_⟩
  cases o <;> rfl
theorem rend_spec (hr : RdAt N h r o) : HC Tryz.prog 89 #[.pointer (some ⟨r, 0, none⟩)] h fun v h' => h' = h ∧ v = .bool (decide (o = some [])) := by
  have hr0 := hr
  obtain ⟨A, n, c, p⟩ := hr
  refine HC_of_vc (args := [.pointer (some ⟨r, 0, none⟩)]) (base := 13) (cuts := []) (bigs := []) hm Tryz.func89 ?_
  rw [vcRdEnd]
  refine (rgood_spec hr0).mono ?_
  rintro v h1 ⟨rfl, rfl⟩
  refine ⟨_, rfl, _, fun _ => rfl, _, _, _, fun _ => p.rb, rfl, ?_⟩
  have hl := p.sl.1
  cases o with
  | none => rfl
  | some l =>
    have hl : l.length = n := hl
    cases l with
    | nil => simp at hl; subst hl; rfl
    | cons a l =>
      have : ¬ n = 0 := by simp at hl; omega
      simp [this]
theorem and127 : ∀ k : Fin 256, ((BitVec.ofInt 8 (k.val : Int)) &&& BitVec.ofInt 8 127).toNat = k.val % 128 := by decide
theorem or_val {a i x : Nat} (ha : a < 128 ^ i) (hi : i ≤ 9) (hx : x < 128) (h9 : i = 9 → x ≤ 1) :
    IntKind.u64.wrap ((BitVec.ofInt 64 (a : Int) ||| BitVec.ofInt 64 (IntKind.u64.wrap (IntKind.u64.wrap (IntKind.u8.wrap (x : Int)) * 2 ^ min (IntKind.i64.wrap (7 * (i : Int))).toNat 64))).toNat : Int) = ((a + x * 128 ^ i : Nat) : Int) ∧ a + x * 128 ^ i < 18446744073709551616 ∧ a + x * 128 ^ i < 128 ^ (i + 1) := by
  have e7 : min (IntKind.i64.wrap (7 * (i : Int))).toNat 64 = 7 * i := by rw [wrap_i64 (by omega) (by omega)]; omega
  have ep : (128 : Nat) ^ i = 2 ^ (7 * i) := by rw [Nat.pow_mul]
  have e9 : (128 : Nat) ^ 9 = 9223372036854775808 := by decide
  have e8 : (128 : Nat) ^ 8 = 72057594037927936 := by decide
  have hlt : x * 128 ^ i + 128 ^ i ≤ 18446744073709551616 := by
    rcases Nat.lt_or_ge i 9 with h | h
    · have h1 : 128 ^ i ≤ 128 ^ 8 := Nat.pow_le_pow_right (by decide) (by omega)
      have h2 : x * 128 ^ i ≤ 127 * 128 ^ 8 := Nat.mul_le_mul (by omega) h1
      omega
    · have : i = 9 := by omega
      subst this
      have := h9 rfl
      rw [e9]; omega
  have hpow : (128 : Nat) ^ (i + 1) = 128 ^ i * 128 := Nat.pow_succ ..
  have hlt2 : a + x * 128 ^ i < 128 ^ (i + 1) := by
    rw [hpow]
    have : x * 128 ^ i ≤ 127 * 128 ^ i := Nat.mul_le_mul_right _ (by omega)
    omega
  refine ⟨?_, by omega, hlt2⟩
  have w8 : IntKind.u8.wrap (x : Int) = (x : Int) := by simp [IntKind.wrap, IntKind.signed, IntKind.bits]; omega
  have w64 : ∀ y : Nat, y < 18446744073709551616 → IntKind.u64.wrap (y : Int) = (y : Int) := fun y hy => by simp [IntKind.wrap, IntKind.signed, IntKind.bits]; omega
  rw [e7, w8, w64 x (by omega)]
  have em : (x : Int) * 2 ^ (7 * i) = ((x * 128 ^ i : Nat) : Int) := by rw [ep]; simp
  rw [em, w64 (x * 128 ^ i) (by omega)]
  have t1 : ∀ y : Nat, y < 18446744073709551616 → (BitVec.ofInt 64 (y : Int)).toNat = y := fun y hy => by simp [BitVec.toNat_ofInt]; omega
  rw [BitVec.toNat_or, t1 a (by omega), t1 _ (by omega)]
  have ho : a ||| x * 128 ^ i = a + x * 128 ^ i := by
    rw [ep] at ha ⊢
    have := Nat.shiftLeft_add_eq_or_of_lt ha x
    rw [Nat.shiftLeft_eq] at this
    rw [Nat.or_comm, ← this, Nat.add_comm]
  rw [ho, w64 _ (by omega)]
set_option maxHeartbeats 1000000 in
theorem ruint2_spec (hr : RdAt N h r o) : HC Tryz.prog 87 #[.pointer (some ⟨r, 0, none⟩)] h fun v h' => RdAt N h' r (rUint o).2 ∧ Upd (fun i => i = r) h h' ∧ v = .int .u64 (rUint o).1 ∧ (rUint o).1 < 18446744073709551616 := by
  have hr0 := hr
  obtain ⟨A, n, c, p⟩ := hr
  refine HC_of_vc (args := [.pointer (some ⟨r, 0, none⟩)]) (base := 56) (cuts := []) (bigs := []) hm Tryz.func87 ?_
  rw [vcRdUint]
  have hl := p.sl.1
  have hU : rUint o = match rdU 0 0 (o.getD []) with | none => (0, none) | some (n, r) => (n, some r) := by
    cases o <;> rfl
  rw [hU]
  generalize hbs : o.getD [] = bs at hl
  have hsl := p.sl
  rw [hbs] at hsl
  have fails : ∀ {H : Heap}, H = h → rdU 0 0 bs = none → HC Tryz.prog 133 (Array.mk [.pointer (some (Addr.mk r 0 none))]) H fun (v13 : Value) (h14 : Heap) => v13 = .tuple (Array.mk []) ∧
      (RdAt N h14 r (match rdU 0 0 bs with | none => (0, none) | some (n, r) => (n, some r)).2 ∧ Upd (fun i => i = r) h h14 ∧ Value.int .u64 0 = .int .u64 (match rdU 0 0 bs with | none => (0, none) | some (n, r) => (n, some r)).1 ∧ (match rdU 0 0 bs with | none => (0, (none : Rs)) | some (n, r) => (n, some r)).1 < 18446744073709551616) := by
    rintro H rfl e
    rw [e]
    refine (rfail_spec hr0).mono ?_
    rintro v h14 ⟨a, b, rfl⟩
    exact ⟨rfl, a, b, rfl, by decide⟩
  refine ⟨_, reads_eql_nil undRp, br_intro (fun e => by cases e) fun _ => ⟨_, rfl, _, _, _, p.rb, fun _ n8 n9 H => ∃ (i a : Nat), n9 = i ∧ n8 = a ∧ i ≤ 9 ∧ i ≤ n ∧ a < 128 ^ i ∧ H = h ∧ rdU 0 0 bs = rdU i a (bs.drop i), fun _ _ n9 _ => n - n9.toNat,
    ⟨0, 0, rfl, rfl, by omega, Nat.zero_le _, by decide, rfl, rfl⟩, ?_⟩⟩
  rintro n7 n8 n9 H ⟨i, a, rfl, rfl, hi, hin, ha, rfl, hrd⟩
  refine br_intro (fun e => ?_) fun e => ?_
  · have e := of_decide_eq_true e
    have hlt : i < n := by omega
    obtain ⟨p11, ea, hc⟩ := hsl.byte (j := i) (by omega)
    have hdrop : bs.drop i = bs[i]'(by omega) :: bs.drop (i + 1) := List.drop_eq_getElem_cons (by omega)
    generalize bs[i]'(by omega) = b at hc hdrop
    rw [hdrop, rdU] at hrd
    have hb := b.toNat_lt
    refine ⟨p11, ⟨ea, by omega, by omega⟩, _, reads_load (by kernel_rfl) (by rw [Int.toNat_natCast, Nat.mul_one]; exact hc), br_intro (fun e2 => ?_) fun e2 => ?_⟩
    · simp only [Bool.or_eq_true, Bool.and_eq_true, decide_eq_true_eq, beq_iff_eq] at e2
      rw [if_pos (by omega)] at hrd
      exact fails rfl hrd
    · simp only [Bool.or_eq_false_iff, Bool.and_eq_false_iff, decide_eq_false_iff_not, beq_eq_false_iff_ne] at e2
      rw [if_neg (by omega)] at hrd
      have h127 : ((BitVec.ofInt 8 (b.toNat : Int)) &&& BitVec.ofInt 8 127).toNat = b.toNat % 128 := and127 ⟨b.toNat, hb⟩
      rw [h127]
      obtain ⟨v1, v2, v3⟩ := or_val (x := b.toNat % 128) ha hi (by omega) (by omega)
      rw [v1]
      refine ⟨by rw [wrap_i64 (by omega) (by omega)]; omega, br_intro (fun e3 => ?_) fun e3 => ?_⟩
      · have e3 := of_decide_eq_true e3
        rw [if_pos (by omega)] at hrd
        rw [hrd, wrap_i64 (by omega) (by omega)]
        have hto : ((i : Int) + 1).toNat = i + 1 := by omega
        have hcap := p.cap
        refine ⟨_, rfl, _, _, _, p.rb, ⟨by omega, by omega, by omega, by omega⟩, _, rfl, ?_⟩
        rw [hto]
        have sv := svc_store_box (P := Tryz.prog) (t := 146) (v := .slice (subA A (i + 1) c 1) (n - (i + 1)) (c - (i + 1))) (K := fun _ h' => RdAt N h' r (some (bs.drop (i + 1))) ∧ Upd (fun i => i = r) H h' ∧ Value.int .u64 ((a + b.toNat % 128 * 128 ^ i : Nat) : Int) = .int .u64 ((a + b.toNat * 128 ^ i : Nat) : Int) ∧ a + b.toNat * 128 ^ i < 18446744073709551616) (k := 0) szBs p.box (by simp) rfl (one_slice _ _ _) fun h6 z6 b6 u6 => by
          have hso : o.isNone = false := by
            cases o with
            | some _ => rfl
            | none => simp at hbs; subst hbs; simp at hl; omega
          have e5 : b.toNat % 128 = b.toNat := by omega
          rw [e5] at v2 ⊢
          refine ⟨⟨_, _, _, by simp [hso] at b6; exact b6, by omega, by have := p.lim; omega, ?_, fun h0 q hq => ?_, p.n⟩, u6, rfl, v2⟩
          · exact (sl_drop hsl (by omega) hcap).upd u6 fun q hq e => (p.ne (by omega) q (blk_subA q hq)).1 e
          · exact p.ne (by omega) q (blk_subA q hq)
        rwa [Addr.add_row] at sv
      · have e3 := of_decide_eq_false e3
        rw [if_neg (by omega)] at hrd
        have e5 : b.toNat - 128 = b.toNat % 128 := by omega
        rw [e5] at hrd
        rw [wrap_i64 (by omega) (by omega)]
        exact ⟨⟨i + 1, _, rfl, rfl, by omega, hlt, v3, rfl, hrd⟩, by dsimp only; omega⟩
  · have e := of_decide_eq_false e
    have hin' : i = bs.length := by omega
    rw [hin', List.drop_length] at hrd
    exact fails rfl hrd
end
end Go.Proofs.YtkhinnchplahlaaGreatDoor
end

section
set_option maxRecDepth 20000
namespace Go.Cd
open Go Go.Vc

theorem rdU_canon : ∀ (l : List UInt8) (i a n : Nat) (r : List UInt8), rdU i a l = some (n, r) → ∃ m, n = a + m * 128 ^ i ∧ l = uintB m ++ r ∧ (0 < i → 0 < m)
  | [], i, a, n, r, h => by simp [rdU] at h
  | c :: l, i, a, n, r, h => by
    unfold rdU at h
    split at h
    · cases h
    · rename_i hc
      split at h
      · rename_i hlt
        cases h
        refine ⟨c.toNat, rfl, ?_, fun hi => ?_⟩
        · rw [uintB_small hlt]
          have : UInt8.ofNat c.toNat = c := by simp
          rw [this]; rfl
        · omega
      · rename_i hge
        obtain ⟨m, e1, e2, e3⟩ := rdU_canon l (i + 1) _ n r h
        have hm := e3 (by omega)
        have hcl : c.toNat < 256 := c.toNat_lt
        refine ⟨(c.toNat - 128) + 128 * m, ?_, ?_, fun _ => by omega⟩
        · rw [e1, Nat.pow_succ, Nat.add_mul, Nat.add_assoc]
          congr 2
          rw [Nat.mul_comm 128 m, Nat.mul_assoc, Nat.mul_comm (128 ^ i) 128]
        · rw [uintB_big (by omega)]
          have h1 : ((c.toNat - 128) + 128 * m) % 128 + 128 = c.toNat := by omega
          have h2 : ((c.toNat - 128) + 128 * m) / 128 = m := by omega
          rw [h1, h2, e2]
          have : UInt8.ofNat c.toNat = c := by simp
          rw [this]; rfl
theorem rUint_canon {l r : List UInt8} {n : Nat} (h : rUint (some l) = (n, some r)) : l = uintB n ++ r := by
  unfold rUint at h
  dsimp only at h
  cases hr : rdU 0 0 l with
  | none => rw [hr] at h; cases h
  | some p =>
    obtain ⟨m, r'⟩ := p
    rw [hr] at h
    cases h
    obtain ⟨m, e1, e2, _⟩ := rdU_canon l 0 0 _ _ hr
    rw [e1]
    simpa using e2
theorem bytesL_mk (l : List UInt8) : bytesL (⟨l.toArray⟩ : ByteArray) = l := rfl
theorem mk_sz (l : List UInt8) : (⟨l.toArray⟩ : ByteArray).size = l.length := rfl
theorem rText_canon {l r : List UInt8} {most : Int} {s : ByteArray} (h : rText most (some l) = (s, some r)) : l = textB s ++ r ∧ (s.size : Int) ≤ most := by
  unfold rText at h
  cases hu : rUint (some l) with
  | mk n o =>
    rw [hu] at h
    dsimp only at h
    split at h
    · cases h
    · rename_i hm
      cases o with
      | none => cases h
      | some q =>
        unfold rTake at h
        dsimp only at h
        split at h
        · cases h
        · rename_i hq
          cases h
          have hl := rUint_canon hu
          have hn : n ≤ q.length := by omega
          have hsz : (⟨(q.take (n : Int).toNat).toArray⟩ : ByteArray).size = n := by rw [mk_sz, List.length_take]; omega
          refine ⟨?_, by rw [hsz]; omega⟩
          unfold textB
          rw [hsz, bytesL_mk, hl, List.append_assoc]
          congr 1
          exact (List.take_append_drop _ _).symm
theorem nextF_pre {bs : List UInt8} {s : ByteArray} {m : Nat} (h : nextF bs = some (s, m)) : ∃ r, bs = frameB s ++ r := by
  unfold nextF at h
  split at h
  · cases h
  · rename_i s' r hr
    split at h
    · cases h
    · split at h
      · rename_i hlen hs
        cases h
        obtain ⟨e, _⟩ := rText_canon hr
        have hl := textB_len s
        have e1 : bs.take ((uintB s.size).length + s.size) = textB s := by rw [e, ← hl, List.take_left]
        have e2 : bs.drop ((uintB s.size).length + s.size) = r := by rw [e, ← hl, List.drop_left]
        rw [e1, e2] at hs
        refine ⟨r.drop 4, ?_⟩
        unfold frameB
        rw [← hs, e, List.append_assoc, List.take_append_drop]
      · cases h
theorem nextF_size {bs : List UInt8} {s : ByteArray} {m : Nat} (h : nextF bs = some (s, m)) (hb : bs.length < 18446744073709551616) (r : List UInt8) : nextF (bs ++ r) = some (s, (frameB s).length) := by
  obtain ⟨q, rfl⟩ := nextF_pre h
  have := nextF_len h
  rw [List.append_assoc]
  exact nextF_frame s (by omega) _
/- ------------------------------------------------------------------ the document's way -/
def hv : List UInt8 → Nat
  | [] => 0
  | c :: l => c.toNat % 128 + 128 * hv l
end Go.Cd
end

section
namespace Go.Ls
open Go Go.Vc Go.Dk Go.Cd Go.Kv

/- ------------------------------------------------------------------ the last write of a key -/
def lastW : List Wr → Str → Option Wr
  | [], _ => none
  | w :: l, k => match lastW l k with | some x => some x | none => if w.key = k then some w else none
def live (w : Wr) : Option Str := if w.gone then none else some w.val
theorem lastW_app : ∀ (l m : List Wr) (k : Str), lastW (l ++ m) k = match lastW m k with | some x => some x | none => lastW l k
  | [], m, k => by simp [lastW]; cases lastW m k <;> rfl
  | w :: l, m, k => by
    simp only [List.cons_append, lastW, lastW_app l m k]
    cases lastW m k <;> rfl
theorem get_doneAll : ∀ (l : List Wr) {P : Ps Str}, SrtP P → ∀ k, mGet (doneAll P l) k = match lastW l k with | some w => live w | none => mGet P k
  | [], P, h, k => rfl
  | w :: l, P, h, k => by
    show mGet (doneAll (done1 P w) l) k = _
    rw [get_doneAll l (srt_done1 h w) k, get_done1 h]
    simp only [lastW]
    cases lastW l k with
    | some x => rfl
    | none =>
      by_cases e : w.key = k
      · subst e; simp [live]
      · simp [e, Ne.symm e]
theorem doneAll_ext {P : Ps Str} (h : SrtP P) {l m : List Wr} (he : ∀ k, (lastW l k).map live = (lastW m k).map live) : doneAll P l = doneAll P m := by
  refine ps_ext (srt_doneAll l h) (srt_doneAll m h) fun k => ?_
  rw [get_doneAll l h, get_doneAll m h]
  have := he k
  cases h1 : lastW l k <;> cases h2 : lastW m k <;> simp [h1, h2] at this ⊢
  exact this
/- ------------------------------------------------------------------ a table of writes -/
def norm (w : Wr) : Wr := if w.gone then { w with val := ⟨#[]⟩ } else w
theorem norm_key (w : Wr) : (norm w).key = w.key := by unfold norm; split <;> rfl
theorem norm_gone (w : Wr) : (norm w).gone = w.gone := by unfold norm; split <;> rfl
theorem norm_live (w : Wr) : live (norm w) = live w := by
  unfold live norm
  cases h : w.gone <;> simp [h]
theorem norm_val (w : Wr) : (norm w).val.size ≤ w.val.size := by
  unfold norm; split
  · exact Nat.zero_le _
  · exact Nat.le_refl _
def lastM (l : List Wr) : Ps Wr := l.foldl (fun m w => sput w.key (norm w) m) []
def ofL (l : List Wr) : List Wr := (lastM l).map (·.2)
theorem lastM_snoc (l : List Wr) (w : Wr) : lastM (l ++ [w]) = sput w.key (norm w) (lastM l) := by unfold lastM; rw [List.foldl_append]; rfl
theorem list_snoc_ind {α : Type} {M : List α → Prop} (h0 : M []) (h1 : ∀ l x, M l → M (l ++ [x])) (l : List α) : M l := by
  have : ∀ m : List α, M m.reverse := fun m => by
    induction m with
    | nil => exact h0
    | cons x m ih => rw [List.reverse_cons]; exact h1 _ _ ih
  have := this l.reverse
  rwa [List.reverse_reverse] at this
theorem srt_lastM (l : List Wr) : SrtP (lastM l) := by
  induction l using list_snoc_ind with
  | h0 => exact List.Pairwise.nil
  | h1 l w ih => rw [lastM_snoc]; exact srtp_put ih _ _
theorem get_lastM (l : List Wr) (k : Str) : mGet (lastM l) k = (lastW l k).map norm := by
  induction l using list_snoc_ind with
  | h0 => rfl
  | h1 l w ih =>
    rw [lastM_snoc, getp_put (srt_lastM l), lastW_app, ih]
    simp only [lastW]
    by_cases e : w.key = k
    · subst e; simp
    · simp [e, Ne.symm e]
theorem mem_sput {ν : Type} {k : Str} {v : ν} {F : Ps ν} {p : Str × ν} (h : p ∈ sput k v F) : p = (k, v) ∨ p ∈ F := by
  induction F with
  | nil => simp [sput] at h; exact .inl h
  | cons q F ih =>
    unfold sput at h
    split at h
    · rcases List.mem_cons.1 h with h | h
      · exact .inl h
      · exact .inr (List.mem_cons_of_mem _ h)
    · split at h
      · rcases List.mem_cons.1 h with h | h
        · exact .inl h
        · exact .inr h
      · rcases List.mem_cons.1 h with h | h
        · exact .inr (h ▸ List.mem_cons_self)
        · exact (ih h).imp id fun h => List.mem_cons_of_mem _ h
theorem lastM_mem {l : List Wr} {p : Str × Wr} (h : p ∈ lastM l) : ∃ w ∈ l, p = (w.key, norm w) := by
  induction l using list_snoc_ind with
  | h0 => cases h
  | h1 l w ih =>
    rw [lastM_snoc] at h
    rcases mem_sput h with rfl | h
    · exact ⟨w, by simp, rfl⟩
    · obtain ⟨x, hx, e⟩ := ih h
      exact ⟨x, by simp [hx], e⟩
structure Tab (T : List Wr) : Prop where
  srt : Srt (T.map (·.key))
  val : ∀ w ∈ T, w.gone = true → w.val = ⟨#[]⟩
theorem ofL_keys (l : List Wr) : (ofL l).map (·.key) = mKeys (lastM l) := by
  unfold ofL mKeys
  rw [List.map_map]
  refine List.map_congr_left fun p hp => ?_
  obtain ⟨w, _, rfl⟩ := lastM_mem hp
  exact norm_key w
theorem ofL_tab (l : List Wr) : Tab (ofL l) := by
  refine ⟨by rw [ofL_keys]; exact srt_lastM l, fun w hw hg => ?_⟩
  obtain ⟨p, hp, rfl⟩ := List.mem_map.1 hw
  obtain ⟨x, _, rfl⟩ := lastM_mem hp
  dsimp only at hg ⊢
  rw [norm_gone] at hg
  unfold norm; rw [if_pos hg]
theorem ofL_mem {l : List Wr} {w : Wr} (h : w ∈ ofL l) : ∃ x ∈ l, w = norm x := by
  obtain ⟨p, hp, rfl⟩ := List.mem_map.1 h
  obtain ⟨x, hx, rfl⟩ := lastM_mem hp
  exact ⟨x, hx, rfl⟩
theorem len_sput {ν : Type} (k : Str) (v : ν) : ∀ F : Ps ν, (sput k v F).length ≤ F.length + 1
  | [] => by simp [sput]
  | q :: F => by
    unfold sput
    split
    · simp
    · split
      · simp
      · have := len_sput k v F; simp only [List.length_cons]; omega
theorem ofL_len (l : List Wr) : (ofL l).length ≤ l.length := by
  unfold ofL
  rw [List.length_map]
  induction l using list_snoc_ind with
  | h0 => exact Nat.le_refl _
  | h1 l w ih => rw [lastM_snoc]; have := len_sput w.key (norm w) (lastM l); simp only [List.length_append, List.length_singleton]; omega
theorem tab_last : ∀ {T : List Wr}, Srt (T.map (·.key)) → ∀ k, lastW T k = T.find? fun w => decide (w.key = k)
  | [], _, _ => rfl
  | w :: T, h, k => by
    have hp := List.pairwise_cons.1 h
    have ih := tab_last (T := T) hp.2 k
    simp only [lastW, List.find?_cons]
    by_cases e : w.key = k
    · subst e
      have : lastW T w.key = none := by
        rw [ih, List.find?_eq_none]
        intro x hx hc
        have := hp.1 x.key (List.mem_map_of_mem hx)
        rw [of_decide_eq_true hc, lt_irrefl] at this
        cases this
      rw [this]; simp
    · simp only [e, if_false, decide_false]
      rw [ih]
      cases T.find? (fun w => decide (w.key = k)) <;> rfl
theorem get_map_val : ∀ (F : Ps Wr), (∀ p ∈ F, p.2.key = p.1) → ∀ k, (F.map (·.2)).find? (fun w => decide (w.key = k)) = mGet F k
  | [], _, _ => rfl
  | p :: F, h, k => by
    simp only [List.map_cons, List.find?_cons, mGet, h p List.mem_cons_self]
    by_cases e : p.1 = k
    · simp [e]
    · simp [e, get_map_val F (fun q hq => h q (List.mem_cons_of_mem _ hq)) k]
theorem ofL_last (l : List Wr) (k : Str) : lastW (ofL l) k = (lastW l k).map norm := by
  rw [tab_last (ofL_tab l).srt, ← get_lastM]
  refine get_map_val (lastM l) (fun p hp => ?_) k
  obtain ⟨w, _, rfl⟩ := lastM_mem hp
  exact norm_key w
theorem ofL_done {P : Ps Str} (h : SrtP P) (l : List Wr) : doneAll P (ofL l) = doneAll P l := by
  refine doneAll_ext h fun k => ?_
  rw [ofL_last]
  cases lastW l k with
  | none => rfl
  | some w => simp [norm_live]
theorem whole_done {T : List Wr} (h : Srt (T.map (·.key))) : doneAll [] (T.filter fun w => !w.gone) = doneAll [] T := by
  have hs : SrtP ([] : Ps Str) := List.Pairwise.nil
  have hf : Srt ((T.filter fun w => !w.gone).map (·.key)) := List.Pairwise.sublist (List.filter_sublist.map _) h
  refine ps_ext (srt_doneAll _ hs) (srt_doneAll _ hs) fun k => ?_
  rw [get_doneAll _ hs, get_doneAll _ hs, tab_last hf, tab_last h]
  have key : ∀ {T : List Wr}, Srt (T.map (·.key)) → (match (T.filter fun w => !w.gone).find? (fun w => decide (w.key = k)) with | some w => live w | none => none) = (match T.find? (fun w => decide (w.key = k)) with | some w => live w | none => none) := by
    intro T
    induction T with
    | nil => intro _; rfl
    | cons w T ih =>
      intro h
      have hp := List.pairwise_cons.1 h
      rw [List.filter_cons]
      by_cases e : w.key = k
      · have hno : T.find? (fun w => decide (w.key = k)) = none := by
          rw [List.find?_eq_none]
          intro x hx hc
          have := hp.1 x.key (List.mem_map_of_mem hx)
          rw [of_decide_eq_true hc] at this
          dsimp only at this
          rw [e, lt_irrefl] at this
          cases this
        have ihT := ih hp.2
        rw [hno] at ihT
        cases hg : w.gone with
        | true => simp only [Bool.not_true, Bool.false_eq_true, if_false]; rw [ihT]; simp [e, live, hg]
        | false => simp [e]
      · cases hg : w.gone with
        | true => simp only [Bool.not_true, Bool.false_eq_true, if_false]; rw [ih hp.2]; simp [e]
        | false => simp only [Bool.not_false, if_true, List.find?_cons, e, decide_false]; exact ih hp.2
  have := key h
  cases h1 : (T.filter fun w => !w.gone).find? (fun w => decide (w.key = k)) <;> cases h2 : T.find? (fun w => decide (w.key = k)) <;> simp [h1, h2, mGet] at this ⊢
  · exact this
  · exact this
  · exact this
theorem whole_pairs {T : List Wr} (h : Srt (T.map (·.key))) : doneAll [] T = (T.filter fun w => !w.gone).map fun w => (w.key, w.val) := by
  have hs : SrtP ([] : Ps Str) := List.Pairwise.nil
  have hf : Srt ((T.filter fun w => !w.gone).map (·.key)) := List.Pairwise.sublist (List.filter_sublist.map _) h
  rw [← whole_done h]
  have hk : mKeys ((T.filter fun w => !w.gone).map fun w => (w.key, w.val)) = (T.filter fun w => !w.gone).map (·.key) := by
    unfold mKeys; rw [List.map_map]; rfl
  refine ps_ext (srt_doneAll _ hs) (by unfold SrtP; rw [hk]; exact hf) fun k => ?_
  rw [get_doneAll _ hs, tab_last hf]
  have hg : ∀ w ∈ T.filter fun w => !w.gone, w.gone = false := fun w hw => by simpa using (List.mem_filter.1 hw).2
  generalize (T.filter fun w => !w.gone) = U at hg
  induction U with
  | nil => rfl
  | cons w U ih =>
    simp only [List.find?_cons, List.map_cons, mGet]
    by_cases e : w.key = k
    · simp [e, live, hg w List.mem_cons_self]
    · simp only [e, decide_false, if_false]
      exact ih fun x hx => hg x (List.mem_cons_of_mem _ hx)
end Go.Ls
end

section
set_option maxRecDepth 20000
namespace Go.Ls
open Go Go.Vc Go.Dk Go.Cd Go.Kv

def gB (w : Wr) : Nat := if w.gone then 1 else 0
def wrB (w : Wr) : List UInt8 := uintB (gB w) ++ (textB w.key ++ textB w.val)
def plainB (l : List Wr) : List UInt8 := uintB l.length ++ l.flatMap wrB
def recB (n : Nat) (l : List Wr) : Str := ⟨(uintB (2 * n) ++ textB ⟨(plainB l).toArray⟩).toArray⟩
def tabF (T : List Wr) : List UInt8 := frameB ⟨(plainB T).toArray⟩
structure Fit (w : Wr) : Prop where
  key : w.key.size ≤ 48
  val : w.val.size ≤ 160
def rWr (o : Rs) : Wr × Rs := (⟨(rText 48 (rUint o).2).1, (rText 160 (rText 48 (rUint o).2).2).1, (rUint o).1 == 1⟩, (rText 160 (rText 48 (rUint o).2).2).2)
def rWrs : Nat → Rs → List Wr × Rs
  | 0, o => ([], o)
  | _ + 1, none => ([], none)
  | n + 1, some l => ((rWr (some l)).1 :: (rWrs n (rWr (some l)).2).1, (rWrs n (rWr (some l)).2).2)
theorem rWr_app {w : Wr} (h : Fit w) (r : List UInt8) : rWr (some (wrB w ++ r)) = (w, some r) := by
  have hg : gB w < 18446744073709551616 := by unfold gB; split <;> omega
  have hk := h.key
  have hv := h.val
  unfold rWr wrB
  rw [List.append_assoc, rUint_uintB hg]
  dsimp only
  rw [List.append_assoc, rText_textB (by omega) (by omega)]
  dsimp only
  rw [rText_textB (by omega) (by omega)]
  dsimp only
  have : (gB w == 1) = w.gone := by unfold gB; cases w.gone <;> rfl
  rw [this]
theorem rWrs_app : ∀ (l : List Wr) (r : List UInt8), (∀ w ∈ l, Fit w) → rWrs l.length (some (l.flatMap wrB ++ r)) = (l, some r)
  | [], r, _ => rfl
  | w :: l, r, h => by
    have e : rWr (some ((w :: l).flatMap wrB ++ r)) = (w, some (l.flatMap wrB ++ r)) := by
      rw [List.flatMap_cons, List.append_assoc]; exact rWr_app (h w List.mem_cons_self) _
    show rWrs (l.length + 1) (some ((w :: l).flatMap wrB ++ r)) = _
    unfold rWrs
    rw [e]
    dsimp only
    rw [rWrs_app l r fun x hx => h x (List.mem_cons_of_mem _ hx)]
theorem rWrs_plain {l : List Wr} (h : ∀ w ∈ l, Fit w) (hl : l.length < 18446744073709551616) : rUint (some (plainB l)) = (l.length, some (l.flatMap wrB)) ∧ rWrs l.length (some (l.flatMap wrB)) = (l, some []) := by
  refine ⟨rUint_uintB hl _, ?_⟩
  have := rWrs_app l [] h
  rwa [List.append_nil] at this
/- ------------------------------------------------------------------ sizes -/
theorem wrB_len {w : Wr} (h : Fit w) : (wrB w).length ≤ 216 := by
  have h1 := textB_len w.key
  have h2 := textB_len w.val
  have h3 := uintB_len 0 w.key.size (by have := h.key; omega)
  have h4 := uintB_len 1 w.val.size (by have := h.val; omega)
  have h5 := uintB_len 0 (gB w) (by unfold gB; split <;> omega)
  have := h.key
  have := h.val
  unfold wrB
  rw [List.length_append, List.length_append]
  omega
theorem flat_wr_len : ∀ {l : List Wr}, (∀ w ∈ l, Fit w) → (l.flatMap wrB).length ≤ 216 * l.length
  | [], _ => Nat.le_refl _
  | w :: l, h => by
    have h1 := wrB_len (h w List.mem_cons_self)
    have h2 := flat_wr_len (l := l) fun x hx => h x (List.mem_cons_of_mem _ hx)
    rw [List.flatMap_cons, List.length_append, List.length_cons]
    omega
theorem plainB_len {l : List Wr} (h : ∀ w ∈ l, Fit w) (hl : l.length < 18446744073709551616) : (plainB l).length ≤ 216 * l.length + 10 := by
  have h1 := flat_wr_len h
  have h2 := uintB_len10 hl
  unfold plainB
  rw [List.length_append]
  omega
theorem tabF_len {l : List Wr} (h : ∀ w ∈ l, Fit w) (hl : l.length < 1000000) : (tabF l).length ≤ 216 * l.length + 24 ∧ 5 ≤ (tabF l).length := by
  have h1 := plainB_len h (by omega)
  unfold tabF
  have h2 := frameB_len ⟨(plainB l).toArray⟩
  have h3 := textB_len ⟨(plainB l).toArray⟩
  rw [mk_sz] at h3
  have h4 := uintB_len10 (n := (plainB l).length) (by omega)
  have h5 := uintB_pos (plainB l).length
  omega
theorem recB_size {n : Nat} {l : List Wr} (h : ∀ w ∈ l, Fit w) (hl : l.length < 1000000) (hn : n < 4611686018427387904) : (recB n l).size ≤ 216 * l.length + 30 := by
  have h1 := plainB_len h (by omega)
  have h3 := textB_len ⟨(plainB l).toArray⟩
  rw [mk_sz] at h3
  have h4 := uintB_len10 (n := (plainB l).length) (by omega)
  have h5 := uintB_len10 (n := 2 * n) (by omega)
  unfold recB
  rw [mk_sz, List.length_append]
  omega
/- ------------------------------------------------------------------ records, one behind the other -/
theorem nextF_zeros (Z : Nat) : nextF (List.replicate Z 0) = none := by
  cases hn : nextF (List.replicate Z 0) with
  | none => rfl
  | some p =>
    obtain ⟨s, m⟩ := p
    obtain ⟨r, e⟩ := nextF_pre hn
    have hall : ∀ x ∈ frameB s, x = 0 := fun x hx => by
      have : x ∈ List.replicate Z (0 : UInt8) := by rw [e]; exact List.mem_append_left _ hx
      exact (List.mem_replicate.1 this).2
    have hu : ∀ x ∈ uintB s.size, x = 0 := fun x hx => hall x (List.mem_append_left _ (List.mem_append_left _ hx))
    have hs : s.size = 0 := by
      by_cases h : s.size < 128
      · rw [uintB_small h] at hu
        have := congrArg UInt8.toNat (hu _ List.mem_cons_self)
        simp at this
        omega
      · rw [uintB_big h] at hu
        have := congrArg UInt8.toNat (hu _ List.mem_cons_self)
        simp at this
        omega
    have hs0 : s = ⟨#[]⟩ := by
      cases s with
      | mk d => simp [ByteArray.size] at hs; rw [hs]
    subst hs0
    exfalso
    revert hall
    decide +kernel
theorem splitN_frames : ∀ (l : List Str) (Z k : Nat), l.length ≤ k → (∀ s ∈ l, s.size < 18446744073709551616) → splitN (k + 1) (l.flatMap frameB ++ List.replicate Z 0) = l
  | [], Z, k, _, _ => by
    unfold splitN
    rw [List.flatMap_nil, List.nil_append, nextF_zeros]
  | s :: l, Z, k, hk, hs => by
    unfold splitN
    rw [List.flatMap_cons, List.append_assoc, nextF_frame s (hs s List.mem_cons_self)]
    dsimp only
    rw [List.drop_left]
    simp only [List.length_cons] at hk
    obtain ⟨k', rfl⟩ : ∃ k', k = k' + 1 := ⟨k - 1, by omega⟩
    rw [splitN_frames l Z k' (by omega) fun x hx => hs x (List.mem_cons_of_mem _ hx)]
theorem flat_frames_len : ∀ (l : List Str), l.length ≤ (l.flatMap frameB).length
  | [] => Nat.le_refl _
  | s :: l => by
    have := flat_frames_len l
    have := frameB_len s
    rw [List.flatMap_cons, List.length_append, List.length_cons]; omega
theorem split_frames (l : List Str) (Z : Nat) (hs : ∀ s ∈ l, s.size < 18446744073709551616) : splitL (l.flatMap frameB ++ List.replicate Z 0) = l := by
  unfold splitL
  refine splitN_frames l Z _ ?_ hs
  have := flat_frames_len l
  rw [List.length_append]; omega
/- ------------------------------------------------------------------ a log's pages -/
def chunk (b : List UInt8) (i : Nat) : List UInt8 := (b.drop (510 * i)).take 510
def lpage (b : List UInt8) (i : Nat) : Str := ⟨(UInt8.ofNat ((chunk b i).length % 256) :: UInt8.ofNat ((chunk b i).length / 256) :: chunk b i).toArray⟩
def npg (n : Nat) : Nat := (n + 509) / 510
def lpages (b : List UInt8) : List Str := (List.range (npg b.length)).map fun i => pad (lpage b i)
theorem chunk_len (b : List UInt8) (i : Nat) : (chunk b i).length = min 510 (b.length - 510 * i) := by
  unfold chunk; rw [List.length_take, List.length_drop]
theorem lpage_size (b : List UInt8) (i : Nat) : (lpage b i).size = (chunk b i).length + 2 := by
  unfold lpage; rw [mk_sz]; rfl
theorem chunk_same {b c : List UInt8} {i : Nat} (h : 510 * (i + 1) ≤ b.length) : chunk (b ++ c) i = chunk b i := by
  unfold chunk
  rw [List.drop_append_of_le_length (by omega), List.take_append_of_le_length (by rw [List.length_drop]; omega)]
theorem lpages_len (b : List UInt8) : (lpages b).length = npg b.length := by simp [lpages]
theorem lpages_app (b c : List UInt8) : (lpages (b ++ c)).take (b.length / 510) = (lpages b).take (b.length / 510) := by
  refine List.ext_getElem? fun i => ?_
  by_cases h : i < b.length / 510
  · have h1 : 510 * (i + 1) ≤ b.length := by omega
    rw [List.getElem?_take, List.getElem?_take, if_pos h, if_pos h]
    unfold lpages
    rw [List.getElem?_map, List.getElem?_map, List.getElem?_range (by unfold npg; rw [List.length_append]; omega), List.getElem?_range (by unfold npg; omega)]
    simp only [Option.map_some, lpage, chunk_same h1]
  · rw [List.getElem?_eq_none (by rw [List.length_take]; omega), List.getElem?_eq_none (by rw [List.length_take]; omega)]
end Go.Ls
end

section
namespace Go.Pg
open Go Go.Vc Go.Dk Go.Cd

abbrev Rw := List (Int × Str)
def layW (n : Str) : Rw → D → Int × D
  | [], x => (0, x)
  | p :: l, x => if (write x n p.1 p.2).1 ≠ 0 then write x n p.1 p.2 else layW n l (write x n p.1 p.2).2
def partB (l : List UInt8) (k : Nat) : Str := ⟨((l.drop (512 * k)).take 512).toArray⟩
def nparts (l : List UInt8) : Nat := (l.length + 511) / 512
def partsW (l : List UInt8) : Rw := (List.range (nparts l)).map fun k : Nat => (((k : Nat) : Int), partB l k)
/- ------------------------------------------------------------------ writes that wait -/
theorem off_waits (k : Int) (x : D) : (off k x).waits.length ≤ x.waits.length := by
  unfold off; split <;> simp
theorem write_waits (x : D) (n : Str) (i : Int) (b : Str) : (write x n i b).2.waits.length ≤ x.waits.length + 1 := by
  unfold write
  split
  · exact Nat.le_succ _
  · split
    · exact Nat.le_succ _
    · split
      · exact Nat.le_succ _
      · split
        · exact Nat.le_succ _
        · dsimp only
          split
          · refine Nat.le_trans (off_waits _ _) ?_
            simp
          · simp
theorem ended_waits (x : D) : (ended x).2.waits.length ≤ x.waits.length := by
  unfold ended; split
  · exact off_waits _ _
  · exact Nat.le_refl _
theorem may_waits (x : D) (n : Str) : (Dk.may x n).2.waits.length ≤ x.waits.length := by
  unfold Dk.may
  split
  · exact Nat.le_refl _
  · split
    · exact Nat.le_refl _
    · exact ended_waits x
theorem drop_waits (ws : List Wt) (n : Str) (k : Int) : (Dk.drop ws n k).length ≤ ws.length := List.length_filter_le _ _
theorem sync_waits (x : D) (n : Str) : (sync x n).2.waits.length ≤ x.waits.length := by
  have h := may_waits x n
  unfold sync
  split
  rename_i e d1 he
  rw [he] at h
  split
  · exact Nat.le_trans (drop_waits _ _ _) h
  · exact h
theorem rename_waits (x : D) (a b : Str) : (rename x a b).2.waits.length ≤ x.waits.length := by
  have h := may_waits x a
  unfold rename
  split
  rename_i e d1 he
  rw [he] at h
  split
  · simp only [List.length_map]
    exact Nat.le_trans (drop_waits _ _ _) h
  · exact h
theorem remove_waits (x : D) (a : Str) : (remove x a).2.waits.length ≤ x.waits.length := by
  have h := may_waits x a
  unfold remove
  split
  rename_i e d1 he
  rw [he] at h
  split
  · exact Nat.le_trans (drop_waits _ _ _) h
  · exact h
theorem layW_waits (n : Str) : ∀ (W : Rw) (x : D), (layW n W x).2.waits.length ≤ x.waits.length + W.length
  | [], x => Nat.le_refl _
  | p :: W, x => by
    have h1 := write_waits x n p.1 p.2
    unfold layW
    split
    · simp only [List.length_cons]; omega
    · have := layW_waits n W (write x n p.1 p.2).2
      simp only [List.length_cons]; omega
theorem partsW_len (l : List UInt8) : (partsW l).length = nparts l := by simp [partsW]
end Go.Pg
end

section
namespace Go.Pg
open Go Go.Vc Go.Dk Go.Cd

structure Quiet (x : D) : Prop where
  down : x.down = false
  fuse : x.fuse = 0
structure Nx (k : Nat) (x y : D) (F : Fs) : Prop where
  q : Quiet y
  now : y.now = F
  room : y.room = x.room
  acts : ∀ a : Nat, x.acts = a → a + k < 4611686018427387904 → y.acts = ((a + k : Nat) : Int)
theorem Nx.refl {x : D} (q : Quiet x) : Nx 0 x x x.now := ⟨q, rfl, rfl, fun a h _ => h⟩
theorem Nx.trans {k m : Nat} {x y z : D} {F G : Fs} (h : Nx k x y F) (g : Nx m y z G) : Nx (k + m) x z G :=
  ⟨g.q, g.now, g.room.trans h.room, fun a ha hb => by
    have h1 := h.acts a ha (by omega)
    have h2 := g.acts _ h1 (by omega)
    rw [h2, Nat.add_assoc]⟩
theorem Nx.cast {k m : Nat} {x y : D} {F G : Fs} (h : Nx k x y F) (e : k = m) (f : F = G) : Nx m x y G := e ▸ f ▸ h
theorem acts_nx {x : D} {a : Nat} (ha : x.acts = a) (hb : a + 1 < 4611686018427387904) : IntKind.i64.wrap (x.acts + 1) = ((a + 1 : Nat) : Int) := by
  rw [ha, wrap_i64 (by omega) (by omega)]; omega
theorem goes_quiet {x : D} (q : Quiet x) : goes x = false := by unfold goes; rw [q.fuse]; rfl
theorem write_nx {x : D} (q : Quiet x) {n : Str} {i : Int} {b : Str} (hb : b.size ≤ 512) (hi : 0 ≤ i ∧ i ≤ (pgs x.now n).length) (hf : i = (pgs x.now n).length → 1 ≤ free x) :
    (write x n i b).1 = 0 ∧ Nx 1 x (write x n i b).2 (put n (setP (pgs x.now n) i.toNat (pad b)) x.now) := by
  have h1 : ¬ x.down = true := by rw [q.down]; decide
  have h2 : ¬ 512 < b.size := by omega
  have h3 : ¬ (i < 0 ∨ ((pgs x.now n).length : Int) < i) := by omega
  have h4 : ¬ (i = (pgs x.now n).length ∧ free x < 1) := fun ⟨a, b⟩ => by have := hf a; omega
  have h5 : ¬ goes x = true := by rw [goes_quiet q]; decide
  unfold write
  rw [if_neg h1, if_neg h2, if_neg h3, if_neg h4]
  dsimp only
  rw [if_neg h5]
  exact ⟨rfl, ⟨q.down, by show x.fuse - 1 = 0; rw [q.fuse]⟩, rfl, rfl, fun a ha hb => acts_nx ha hb⟩
theorem may_nx {x : D} (q : Quiet x) {n : Str} (hn : (mGet x.now n).isSome = true) : Dk.may x n = (0, act x) := by
  have h1 : ¬ x.down = true := by rw [q.down]; decide
  have h5 : ¬ goes x = true := by rw [goes_quiet q]; decide
  unfold Dk.may
  rw [if_neg h1]
  cases hg : mGet x.now n with
  | none => rw [hg] at hn; cases hn
  | some l => dsimp only; unfold ended; rw [if_neg h5]
theorem act_nx {x : D} (q : Quiet x) : Quiet (act x) := ⟨q.down, by show x.fuse - 1 = 0; rw [q.fuse]⟩
theorem sync_nx {x : D} (q : Quiet x) {n : Str} (hn : (mGet x.now n).isSome = true) : (sync x n).1 = 0 ∧ Nx 1 x (sync x n).2 x.now := by
  unfold sync
  rw [may_nx q hn]
  exact ⟨rfl, ⟨q.down, (act_nx q).fuse⟩, rfl, rfl, fun a ha hb => acts_nx ha hb⟩
theorem remove_nx {x : D} (q : Quiet x) {n : Str} (hn : (mGet x.now n).isSome = true) : (remove x n).1 = 0 ∧ Nx 1 x (remove x n).2 (del n x.now) := by
  unfold remove
  rw [may_nx q hn]
  exact ⟨rfl, ⟨q.down, (act_nx q).fuse⟩, rfl, rfl, fun a ha hb => acts_nx ha hb⟩
theorem rename_nx {x : D} (q : Quiet x) {n m : Str} (hn : (mGet x.now n).isSome = true) (hm : n ≠ m) : (rename x n m).1 = 0 ∧ Nx 1 x (rename x n m).2 (moved n m x.now) := by
  unfold rename
  rw [may_nx q hn]
  dsimp only
  rw [if_pos ⟨rfl, hm⟩]
  exact ⟨rfl, ⟨q.down, (act_nx q).fuse⟩, rfl, rfl, fun a ha hb => acts_nx ha hb⟩

/- ------------------------------------------------------------------ rows, one by one -/
def seqB : Nat → Rw → Bool
  | _, [] => true
  | c, p :: W => decide (0 ≤ p.1) && decide (p.1 ≤ c) && seqB (if p.1 = c then c + 1 else c) W
def newN : Nat → Rw → Nat
  | _, [] => 0
  | c, p :: W => if p.1 = c then 1 + newN (c + 1) W else newN c W
def laidL : Rw → List Str → List Str
  | [], l => l
  | p :: W, l => laidL W (setP l p.1.toNat (pad p.2))
theorem setP_len (l : List Str) (i : Nat) (p : Str) : (setP l i p).length = max l.length (i + 1) := by
  unfold setP; rw [List.length_set, List.length_append, List.length_replicate]; omega
theorem put_put {F : Fs} (h : SrtF F) (n : Str) (a b : List Str) : put n b (put n a F) = put n b F :=
  fs_ext (srt_put (srt_put h n a) n b) (srt_put h n b) fun q => by
    rw [get_put (srt_put h n a), get_put h, get_put h]
    by_cases e : q = n <;> simp [e]
theorem pgs_put {F : Fs} (h : SrtF F) (n : Str) (a : List Str) : pgs (put n a F) n = a := by unfold pgs; rw [get_put h, if_pos rfl]; rfl
theorem layW_nx : ∀ (W : Rw) {x : D} (n : Str), Quiet x → SrtF x.now → (∀ p ∈ W, p.2.size ≤ 512) → seqB (pgs x.now n).length W = true → (newN (pgs x.now n).length W : Int) ≤ free x →
    (layW n W x).1 = 0 ∧ Nx W.length x (layW n W x).2 (if W = [] then x.now else put n (laidL W (pgs x.now n)) x.now)
  | [], x, n, q, _, _, _, _ => ⟨rfl, Nx.refl q⟩
  | p :: W, x, n, q, hs, hz, hq, hf => by
    unfold seqB at hq
    simp only [Bool.and_eq_true, decide_eq_true_eq] at hq
    obtain ⟨⟨h1, h2⟩, h3⟩ := hq
    unfold newN at hf
    have hw := write_nx q (n := n) (i := p.1) (b := p.2) (hz p List.mem_cons_self) ⟨h1, h2⟩ (fun e => by rw [if_pos e] at hf; omega)
    obtain ⟨w1, w2⟩ := hw
    have e0 : ¬ (write x n p.1 p.2).1 ≠ 0 := by simp [w1]
    generalize hy : (write x n p.1 p.2).2 = y at w2
    have hpl : pgs y.now n = setP (pgs x.now n) p.1.toNat (pad p.2) := by rw [w2.now]; exact pgs_put hs _ _
    have hsl := setP_len (pgs x.now n) p.1.toNat (pad p.2)
    have htot := tot_put hs n (setP (pgs x.now n) p.1.toNat (pad p.2))
    have hfree : free y + (setP (pgs x.now n) p.1.toNat (pad p.2)).length = free x + (pgs x.now n).length := by
      unfold free; rw [w2.room, w2.now]; omega
    have hsy : SrtF y.now := by rw [w2.now]; exact srt_put hs _ _
    have key : (pgs y.now n).length = (if p.1 = (pgs x.now n).length then (pgs x.now n).length + 1 else (pgs x.now n).length) := by
      rw [hpl, hsl]; split <;> omega
    have ih := layW_nx W (x := y) n w2.q hsy (fun r hr => hz r (List.mem_cons_of_mem _ hr)) (by rw [key]; exact h3) (by
      rw [key]
      rw [hpl] at key
      by_cases e : p.1 = (pgs x.now n).length
      · rw [if_pos e] at hf key ⊢; omega
      · rw [if_neg e] at hf key ⊢; omega)
    have hlw : layW n (p :: W) x = layW n W y := by rw [layW, if_neg e0, hy]
    rw [hlw]
    refine ⟨ih.1, (w2.trans ih.2).cast (by rw [List.length_cons]; omega) ?_⟩
    rw [hpl, w2.now]
    simp only [reduceCtorEq, if_false, laidL]
    split
    · rename_i e; subst e; rfl
    · exact put_put hs _ _ _
theorem seq_range (g : Nat → Str) : ∀ (m c : Nat), seqB c ((List.range' c m).map fun k : Nat => (((k : Nat) : Int), g k)) = true ∧ newN c ((List.range' c m).map fun k : Nat => (((k : Nat) : Int), g k)) = m
  | 0, c => ⟨rfl, rfl⟩
  | m + 1, c => by
    rw [List.range'_succ, List.map_cons]
    unfold seqB newN
    obtain ⟨h1, h2⟩ := seq_range g m (c + 1)
    rw [if_pos rfl, if_pos rfl, h1, h2]
    refine ⟨by simp, by omega⟩
theorem partB_size (l : List UInt8) (k : Nat) : (partB l k).size ≤ 512 := by
  unfold partB
  show (((l.drop (512 * k)).take 512).toArray).size ≤ 512
  rw [List.size_toArray, List.length_take]
  exact Nat.min_le_left _ _
end Go.Pg
end

section
namespace Go.Ls
open Go Go.Vc Go.Dk Go.Kv Go.Cd Go.Pg

theorem seq_from (g : Nat → Str) : ∀ (m s c : Nat), s ≤ c → c ≤ s + m → seqB c ((List.range' s m).map fun k : Nat => (((k : Nat) : Int), g k)) = true ∧ newN c ((List.range' s m).map fun k : Nat => (((k : Nat) : Int), g k)) = s + m - c
  | 0, s, c, h1, h2 => ⟨rfl, by show 0 = _; omega⟩
  | m + 1, s, c, h1, h2 => by
    rw [List.range'_succ, List.map_cons]
    unfold seqB newN
    dsimp only
    by_cases e : s = c
    · subst e
      have ih := seq_from g m (s + 1) (s + 1) (Nat.le_refl _) (by omega)
      rw [if_pos rfl, if_pos rfl, ih.1, ih.2]
      refine ⟨?_, by omega⟩
      simp
    · have hne : ¬ ((s : Int) = (c : Int)) := fun h => e (by exact_mod_cast h)
      have ih := seq_from g m (s + 1) c (by omega) (by omega)
      rw [if_neg hne, if_neg hne, ih.1, ih.2]
      refine ⟨?_, by omega⟩
      have : ((s : Int) ≤ (c : Int)) := by omega
      simp [this]
theorem setP_take (l : List Str) (s : Nat) (p : Str) (h : s ≤ l.length) : (setP l s p).take (s + 1) = l.take s ++ [p] := by
  unfold setP
  refine List.ext_getElem? fun i => ?_
  rw [List.getElem?_take, List.getElem?_append, List.length_take, Nat.min_eq_left h]
  by_cases h1 : i < s
  · rw [if_pos (by omega), if_pos h1, List.getElem?_set_ne (by omega), List.getElem?_append_left (by omega), List.getElem?_take, if_pos h1]
  · by_cases h2 : i = s
    · subst h2
      rw [if_pos (by omega), if_neg (by omega), Nat.sub_self, List.getElem?_set_self (by rw [List.length_append, List.length_replicate]; omega)]; rfl
    · rw [if_neg (by omega), if_neg h1, List.getElem?_eq_none (by simp; omega)]
theorem laid_range (g : Nat → Str) : ∀ (m s : Nat) (l : List Str), s ≤ l.length → l.length ≤ s + m → laidL ((List.range' s m).map fun k : Nat => (((k : Nat) : Int), g k)) l = l.take s ++ (List.range' s m).map fun k => pad (g k)
  | 0, s, l, h1, h2 => by
    show l = _
    rw [List.take_of_length_le (by omega)]; simp
  | m + 1, s, l, h1, h2 => by
    rw [List.range'_succ, List.map_cons, laidL]
    dsimp only
    rw [Int.toNat_natCast]
    have hl := Pg.setP_len l s (pad (g s))
    rw [laid_range g m (s + 1) _ (by omega) (by omega), setP_take l s _ h1, List.map_cons, List.append_assoc]; rfl
def lgW (b : List UInt8) (s : Nat) : Rw := (List.range' s (npg b.length - s)).map fun k : Nat => (((k : Nat) : Int), lpage b k)
theorem lgW_size {b : List UInt8} {s : Nat} : ∀ p ∈ lgW b s, p.2.size ≤ 512 := fun p hp => by
  obtain ⟨k, _, rfl⟩ := List.mem_map.1 hp
  have h1 := lpage_size b k
  have h2 := chunk_len b k
  dsimp only
  omega
theorem lpages_split (b : List UInt8) (s : Nat) (h : s ≤ npg b.length) : lpages b = (lpages b).take s ++ (List.range' s (npg b.length - s)).map fun k => pad (lpage b k) := by
  have hd : (lpages b).drop s = (List.range' s (npg b.length - s)).map fun k => pad (lpage b k) := by
    unfold lpages
    rw [← List.map_drop, List.range_eq_range', List.drop_range']
    simp
  rw [← hd, List.take_append_drop]
theorem npg_mono {m n : Nat} (h : m ≤ n) : npg m ≤ npg n := by unfold npg; omega
theorem npg_div (n : Nat) : n / 510 ≤ npg n ∧ npg n ≤ n / 510 + 1 := by unfold npg; omega
theorem log_app {x : D} {nm : Str} {b c : List UInt8} (q : Quiet x) (ok : SrtF x.now) (hb : pgs x.now nm = lpages b) (hc : c ≠ []) (hf : ((npg (b ++ c).length : Nat) : Int) - npg b.length ≤ free x) :
    (layW nm (lgW (b ++ c) (b.length / 510)) x).1 = 0 ∧ ∃ k, Nx k x (layW nm (lgW (b ++ c) (b.length / 510)) x).2 (put nm (lpages (b ++ c)) x.now) := by
  have hcl : 0 < c.length := List.length_pos_iff.2 hc
  have hle : (b ++ c).length = b.length + c.length := List.length_append
  have hm := npg_mono (m := b.length) (n := (b ++ c).length) (by omega)
  have hd := npg_div b.length
  have hd2 := npg_div (b ++ c).length
  have hs : b.length / 510 < npg (b ++ c).length := by unfold npg; omega
  have hsq := seq_from (lpage (b ++ c)) (npg (b ++ c).length - b.length / 510) (b.length / 510) (npg b.length) hd.1 (by omega)
  have hnew : b.length / 510 + (npg (b ++ c).length - b.length / 510) - npg b.length = npg (b ++ c).length - npg b.length := by omega
  have hcast : ((npg (b ++ c).length - npg b.length : Nat) : Int) = ((npg (b ++ c).length : Nat) : Int) - npg b.length := by omega
  have hne : lgW (b ++ c) (b.length / 510) ≠ [] := fun h => by
    have hlen : (lgW (b ++ c) (b.length / 510)).length = npg (b ++ c).length - b.length / 510 := by unfold lgW; rw [List.length_map, List.length_range']
    rw [h, List.length_nil] at hlen
    omega
  have h := layW_nx (lgW (b ++ c) (b.length / 510)) (x := x) nm q ok lgW_size (by rw [hb, lpages_len]; exact hsq.1) (by rw [hb, lpages_len]; show (newN _ (lgW _ _) : Int) ≤ _; unfold lgW; rw [hsq.2, hnew, hcast]; exact hf)
  rw [if_neg hne, hb] at h
  refine ⟨h.1, _, h.2.cast rfl ?_⟩
  congr 1
  unfold lgW
  rw [laid_range _ _ _ _ (by rw [lpages_len]; exact hd.1) (by rw [lpages_len]; omega)]
  rw [lpages_split (b ++ c) (b.length / 510) (by omega), lpages_app]
def pagesOf (l : List UInt8) : List Str := (List.range (nparts l)).map fun k => pad (partB l k)
theorem pagesOf_len (l : List UInt8) : (pagesOf l).length = nparts l := by simp [pagesOf]
theorem pagesOf_laid (l : List UInt8) : laidL (partsW l) [] = pagesOf l := by
  have := laid_range (partB l) (nparts l) 0 [] (Nat.le_refl _) (by simp)
  rw [← List.range_eq_range'] at this
  exact this
def saveD (f : Str) (l : List UInt8) (x : D) : Int × D := if (layW f (partsW l) x).1 ≠ 0 then layW f (partsW l) x else sync (layW f (partsW l) x).2 f
theorem save_nx {x : D} {f : Str} {l : List UInt8} (q : Quiet x) (ok : SrtF x.now) (hN : mGet x.now f = none) (hl : 0 < nparts l) (hf : (nparts l : Int) ≤ free x) :
    (saveD f l x).1 = 0 ∧ ∃ k, Nx k x (saveD f l x).2 (put f (pagesOf l) x.now) := by
  have hp0 : pgs x.now f = [] := by unfold pgs; rw [hN]; rfl
  have hseq := seq_range (partB l) (nparts l) 0
  rw [← List.range_eq_range'] at hseq
  have hpw : partsW l = (List.range (nparts l)).map fun k : Nat => (((k : Nat) : Int), partB l k) := rfl
  rw [← hpw] at hseq
  have hne : partsW l ≠ [] := fun h => by have := partsW_len l; rw [h] at this; simp at this; omega
  obtain ⟨a1, a2⟩ := layW_nx (partsW l) (x := x) f q ok (fun p hp => by
    rw [hpw] at hp
    obtain ⟨k, _, rfl⟩ := List.mem_map.1 hp
    exact partB_size l k) (by rw [hp0]; exact hseq.1) (by rw [hp0]; show (newN 0 (partsW l) : Int) ≤ _; rw [hseq.2]; exact hf)
  rw [if_neg hne, hp0, pagesOf_laid] at a2
  have e1 : ¬ (layW f (partsW l) x).1 ≠ 0 := by simp [a1]
  unfold saveD
  rw [if_neg e1]
  generalize (layW f (partsW l) x).2 = y at a2
  have hgy : mGet y.now f = some (pagesOf l) := by rw [a2.now, get_put ok, if_pos rfl]
  obtain ⟨b1, b2⟩ := sync_nx a2.q (n := f) (by rw [hgy]; rfl)
  exact ⟨b1, _, (a2.trans b2).cast rfl a2.now⟩
end Go.Ls
end

section
namespace Go.Ls
open Go Go.Vc Go.Dk Go.Kv Go.Cd Go.Pg

def numS (n : Nat) : Str := ⟨(Lib.decDigits n).toArray⟩
theorem digit_val {n : Nat} (h : n < 10) : Lib.digitVal (UInt8.ofNat (48 + n)) = some n := by
  unfold Lib.digitVal
  have : (UInt8.ofNat (48 + n)).toNat = 48 + n := by rw [UInt8.toNat_ofNat']; omega
  rw [this, if_pos (by omega)]
  congr 1; omega
theorem decFrom_snoc : ∀ (l : List UInt8) (a m d : Nat) (b : UInt8), Lib.decFrom a l = some m → Lib.digitVal b = some d → Lib.decFrom a (l ++ [b]) = some (m * 10 + d)
  | [], a, m, d, b, h, hd => by
    simp [Lib.decFrom] at h
    subst h
    simp [Lib.decFrom, hd]
  | c :: l, a, m, d, b, h, hd => by
    rw [List.cons_append]
    unfold Lib.decFrom at h ⊢
    cases hc : Lib.digitVal c with
    | none => rw [hc] at h; cases h
    | some e =>
      rw [hc] at h
      exact decFrom_snoc l _ m d b h hd
theorem decFrom_digits (n : Nat) : Lib.decFrom 0 (Lib.decDigits n) = some n := by
  induction n using Nat.strongRecOn with
  | _ n ih =>
    by_cases h : n < 10
    · rw [Lib.decDigits, dif_pos h]
      show (match Lib.digitVal (UInt8.ofNat (48 + n)) with | some d => Lib.decFrom (0 * 10 + d) [] | none => none) = some n
      rw [digit_val h]
      show some (0 * 10 + n) = some n
      congr 1; omega
    · rw [Lib.decDigits, dif_neg h, decFrom_snoc _ _ _ (n % 10) _ (ih (n / 10) (by omega)) (digit_val (by omega))]
      congr 1; omega
theorem digits_all (n : Nat) : ∀ b ∈ Lib.decDigits n, 48 ≤ b.toNat ∧ b.toNat ≤ 57 := by
  induction n using Nat.strongRecOn with
  | _ n ih =>
    have hd : ∀ k, k < 10 → 48 ≤ (UInt8.ofNat (48 + k)).toNat ∧ (UInt8.ofNat (48 + k)).toNat ≤ 57 := fun k hk => by rw [UInt8.toNat_ofNat']; omega
    intro b hb
    by_cases h : n < 10
    · rw [Lib.decDigits, dif_pos h] at hb
      rw [List.mem_singleton.1 hb]; exact hd n h
    · rw [Lib.decDigits, dif_neg h] at hb
      rcases List.mem_append.1 hb with hb | hb
      · exact ih (n / 10) (by omega) b hb
      · rw [List.mem_singleton.1 hb]; exact hd _ (by omega)
theorem digits_pos (n : Nat) : Lib.decDigits n ≠ [] := by
  rw [Lib.decDigits]
  split
  · simp
  · simp
theorem atoi_digits (n : Nat) : Lib.atoi (Lib.decDigits n) = some (n : Int) := by
  cases h : Lib.decDigits n with
  | nil => exact absurd h (digits_pos n)
  | cons b r =>
    have hb := digits_all n b (by rw [h]; exact List.mem_cons_self)
    have h1 : (b == 45) = false := by
      rw [beq_eq_false_iff_ne]; intro e; subst e; exact absurd hb (by decide)
    have h2 : (b == 43) = false := by
      rw [beq_eq_false_iff_ne]; intro e; subst e; exact absurd hb (by decide)
    have h3 := decFrom_digits n
    rw [h] at h3
    show (if (b == 45) = true then (Lib.decNat r).map fun (m : Nat) => -(m : Int) else if (b == 43) = true then (Lib.decNat r).map fun (m : Nat) => (m : Int) else (Lib.decNat (b :: r)).map fun (m : Nat) => (m : Int)) = some (n : Int)
    rw [h1, h2, if_neg (by decide), if_neg (by decide)]
    show (Lib.decFrom 0 (b :: r)).map (fun (m : Nat) => (m : Int)) = some (n : Int)
    rw [h3]; rfl
theorem digits_inj {m n : Nat} (h : Lib.decDigits m = Lib.decDigits n) : m = n := by
  have h1 := decFrom_digits m
  rw [h, decFrom_digits n] at h1
  exact (Option.some.inj h1).symm
theorem digits_len : ∀ (k n : Nat), n < 10 ^ (k + 1) → (Lib.decDigits n).length ≤ k + 1
  | 0, n, h => by rw [Lib.decDigits, dif_pos (by simpa using h)]; simp
  | k + 1, n, h => by
    rw [Lib.decDigits]
    split
    · simp
    · rw [List.length_append]
      have := digits_len k (n / 10) (by rw [Nat.pow_succ] at h; omega)
      simp; omega
theorem numS_list (n : Nat) : (numS n).data.toList = Lib.decDigits n := rfl
theorem numS_size {k n : Nat} (h : n < 10 ^ (k + 1)) : (numS n).size ≤ k + 1 := by
  have := digits_len k n h
  show (Lib.decDigits n).toArray.size ≤ k + 1
  rw [List.size_toArray]; exact this
def dsh (nm : Str) : Str := nm ++ (⟨#[45]⟩ : Str)
def nmL (nm : Str) : Str := nm ++ (⟨#[45, 108, 105, 115, 116]⟩ : Str)
def nmD (nm : Str) : Str := nm ++ (⟨#[45, 100, 114, 97, 102, 116]⟩ : Str)
def nmF (nm : Str) (n : Nat) : Str := dsh nm ++ numS n
def under (nm f : Str) : Prop := ∃ r, f.data.toList = nm.data.toList ++ 45 :: r
theorem nmL_list (nm : Str) : (nmL nm).data.toList = nm.data.toList ++ 45 :: [108, 105, 115, 116] := by simp [nmL, ByteArray.data_append]
theorem nmD_list (nm : Str) : (nmD nm).data.toList = nm.data.toList ++ 45 :: [100, 114, 97, 102, 116] := by simp [nmD, ByteArray.data_append]
theorem nmF_list (nm : Str) (n : Nat) : (nmF nm n).data.toList = nm.data.toList ++ 45 :: Lib.decDigits n := by simp [nmF, dsh, ByteArray.data_append, numS_list]
theorem str_of {a b : Str} (h : a.data.toList = b.data.toList) : a = b := str_ext (by rw [ByteArray.toList_eq, ByteArray.toList_eq, h])
theorem nmL_under (nm : Str) : under nm (nmL nm) := ⟨_, nmL_list nm⟩
theorem nmD_under (nm : Str) : under nm (nmD nm) := ⟨_, nmD_list nm⟩
theorem nmF_under (nm : Str) (n : Nat) : under nm (nmF nm n) := ⟨_, nmF_list nm n⟩
theorem under_ne {nm f : Str} (h : under nm f) : f ≠ nm := fun e => by
  obtain ⟨r, h⟩ := h
  rw [e] at h
  have := congrArg List.length h
  simp at this
theorem nmL_ne_D (nm : Str) : nmL nm ≠ nmD nm := fun h => by
  have : (nmL nm).data.toList = (nmD nm).data.toList := by rw [h]
  rw [nmL_list, nmD_list] at this
  simp at this
theorem nmF_ne_L (nm : Str) (n : Nat) : nmF nm n ≠ nmL nm := fun h => by
  have h2 : (nmF nm n).data.toList = (nmL nm).data.toList := by rw [h]
  rw [nmF_list, nmL_list] at h2
  have h3 := (List.cons.inj (List.append_cancel_left h2)).2
  have := digits_all n 108 (by rw [h3]; exact List.mem_cons_self)
  exact absurd this (by decide)
theorem nmF_ne_D (nm : Str) (n : Nat) : nmF nm n ≠ nmD nm := fun h => by
  have h2 : (nmF nm n).data.toList = (nmD nm).data.toList := by rw [h]
  rw [nmF_list, nmD_list] at h2
  have h3 := (List.cons.inj (List.append_cancel_left h2)).2
  have := digits_all n 100 (by rw [h3]; exact List.mem_cons_self)
  exact absurd this (by decide)
theorem nmF_inj {nm : Str} {m n : Nat} (h : nmF nm m = nmF nm n) : m = n := by
  have h2 : (nmF nm m).data.toList = (nmF nm n).data.toList := by rw [h]
  rw [nmF_list, nmF_list] at h2
  exact digits_inj (List.cons.inj (List.append_cancel_left h2)).2
end Go.Ls
end

section
namespace Go.Ls
open Go Go.Vc Go.Dk Go.Kv Go.Cd Go.Pg
open Classical in
noncomputable instance decMem (f : Str) (l : List Str) : Decidable (f ∈ l) := propDecidable _

structure TS where
  mem : List Wr
  names : List Nat
  tabs : List (List Wr)
  recs : List (Nat × List Wr)
  laid : Nat
def TS.next (S : TS) : Nat := match S.names.getLast? with
  | none => 0
  | some n => n + 1
def TS.last (S : TS) : Nat := S.laid + S.recs.length
def logB (recs : List (Nat × List Wr)) : List UInt8 := recs.flatMap fun r => frameB (recB r.1 r.2)
def laidKey : Str := ⟨#[108, 97, 105, 100]⟩
def lstE (names : List Nat) : List Wr := names.zipIdx.map fun p => ⟨⟨#[UInt8.ofNat p.2]⟩, numS p.1, false⟩
def lstW (names : List Nat) (laid : Nat) : List Wr := ⟨laidKey, numS laid, false⟩ :: lstE names
def lstT (names : List Nat) (laid : Nat) : List Wr := ofL (lstW names laid)
theorem srt_nil : SrtP ([] : Ps Str) := List.Pairwise.nil
def TS.pairs (S : TS) : Ps Str := doneAll [] (S.tabs.flatten ++ S.mem)
structure TF (nm : Str) (F : Fs) (S : TS) : Prop where
  srt : SrtF F
  log : pgs F nm = lpages (logB S.recs)
  nums : S.recs.map (·.1) = List.range' (S.laid + 1) S.recs.length
  mem : S.mem = (S.recs.map (·.2)).flatten
  lens : S.names.length = S.tabs.length
  inc : S.names.Pairwise (· < ·)
  tab : ∀ T ∈ S.tabs, Tab T ∧ ∀ w ∈ T, Fit w
  fit : ∀ r ∈ S.recs, ∀ w ∈ r.2, Fit w
  files : ∀ (i n : Nat) (T : List Wr), S.names[i]? = some n → S.tabs[i]? = some T → mGet F (nmF nm n) = some (pagesOf (tabF T))
  noL : S.names = [] → mGet F (nmL nm) = none ∧ S.laid = 0
  list : S.names ≠ [] → mGet F (nmL nm) = some (pagesOf (tabF (lstT S.names S.laid)))
  only : ∀ f, under nm f → (mGet F f).isSome = true → f = nmL nm ∨ ∃ n ∈ S.names, f = nmF nm n
section
variable {nm : Str} {F : Fs} {S : TS}
theorem TF.no_file (t : TF nm F S) {n : Nat} (hn : n ∉ S.names) : mGet F (nmF nm n) = none := by
  cases h : mGet F (nmF nm n) with
  | none => rfl
  | some l =>
    rcases t.only _ (nmF_under nm n) (by rw [h]; rfl) with e | ⟨m, hm, e⟩
    · exact absurd e (nmF_ne_L nm n)
    · rw [nmF_inj e] at hn; exact absurd hm hn
theorem TF.no_draft (t : TF nm F S) : mGet F (nmD nm) = none := by
  cases h : mGet F (nmD nm) with
  | none => rfl
  | some l =>
    rcases t.only _ (nmD_under nm) (by rw [h]; rfl) with e | ⟨m, hm, e⟩
    · exact absurd e.symm (nmL_ne_D nm)
    · exact absurd e.symm (nmF_ne_D nm m)
theorem next_new (h : S.names.Pairwise (· < ·)) : ∀ n ∈ S.names, n < S.next := by
  intro n hn
  unfold TS.next
  cases hl : S.names.getLast? with
  | none => rw [List.getLast?_eq_none_iff] at hl; rw [hl] at hn; cases hn
  | some m =>
    show n < m + 1
    obtain ⟨A, hA⟩ := List.getLast?_eq_some_iff.1 hl
    rw [hA] at h hn
    rcases List.mem_append.1 hn with h1 | h1
    · have := (List.pairwise_append.1 h).2.2 n h1 m List.mem_cons_self
      omega
    · rw [List.mem_singleton.1 h1]; omega
theorem TF.new_file (t : TF nm F S) : S.next ∉ S.names := fun h => Nat.lt_irrefl _ (next_new t.inc _ h)
theorem logB_snoc (r : List (Nat × List Wr)) (n : Nat) (l : List Wr) : logB (r ++ [(n, l)]) = logB r ++ frameB (recB n l) := by
  unfold logB; rw [List.flatMap_append]; simp
theorem ofL_fit {l : List Wr} (h : ∀ w ∈ l, Fit w) : ∀ w ∈ ofL l, Fit w := fun w hw => by
  obtain ⟨x, hx, rfl⟩ := ofL_mem hw
  have hf := h x hx
  exact ⟨by rw [norm_key]; exact hf.key, Nat.le_trans (norm_val x) hf.val⟩
theorem TF.mem_fit (t : TF nm F S) : ∀ w ∈ S.mem, Fit w := fun w hw => by
  rw [t.mem] at hw
  obtain ⟨l, hl, hw⟩ := List.mem_flatten.1 hw
  obtain ⟨r, hr, rfl⟩ := List.mem_map.1 hl
  exact t.fit r hr w hw
theorem TF.append (t : TF nm F S) {l : List Wr} (hl : ∀ w ∈ l, Fit w) :
    TF nm (put nm (lpages (logB S.recs ++ frameB (recB (S.last + 1) l))) F) { S with mem := S.mem ++ l, recs := S.recs ++ [(S.last + 1, l)] } := by
  have gu : ∀ f, under nm f → mGet (put nm (lpages (logB S.recs ++ frameB (recB (S.last + 1) l))) F) f = mGet F f := fun f hf => by rw [get_put t.srt, if_neg (under_ne hf)]
  refine ⟨srt_put t.srt _ _, ?_, ?_, ?_, t.lens, t.inc, t.tab, ?_, ?_, ?_, ?_, ?_⟩
  · rw [Pg.pgs_put t.srt]
    show _ = lpages (logB (S.recs ++ [(S.last + 1, l)]))
    rw [logB_snoc]
  · show (S.recs ++ [(S.last + 1, l)]).map (·.1) = List.range' (S.laid + 1) (S.recs ++ [(S.last + 1, l)]).length
    rw [List.map_append, t.nums, List.length_append, List.length_singleton, List.range'_concat]
    congr 1
    show [S.last + 1] = _
    unfold TS.last
    simp; omega
  · show S.mem ++ l = ((S.recs ++ [(S.last + 1, l)]).map (·.2)).flatten
    rw [List.map_append, List.flatten_append, ← t.mem]; simp
  · intro r hr
    rcases List.mem_append.1 hr with hr | hr
    · exact t.fit r hr
    · rw [List.mem_singleton.1 hr]; exact hl
  · intro i n T h1 h2
    rw [gu _ (nmF_under nm n)]; exact t.files i n T h1 h2
  · intro h
    rw [gu _ (nmL_under nm)]; exact t.noL h
  · intro h
    rw [gu _ (nmL_under nm)]; exact t.list h
  · intro f hf hs
    rw [gu f hf] at hs; exact t.only f hf hs
def layF (nm : Str) (n : Nat) (P1 P2 : List Str) (F : Fs) : Fs := moved (nmD nm) (nmL nm) (put (nmD nm) P2 (put (nmF nm n) P1 F))
theorem get_layF (h : SrtF F) (n : Nat) (P1 P2 : List Str) (f : Str) : SrtF (layF nm n P1 P2 F) ∧
    mGet (layF nm n P1 P2 F) f = if f = nmL nm then some P2 else if f = nmD nm then none else if f = nmF nm n then some P1 else mGet F f := by
  have h1 := srt_put h (nmF nm n) P1
  have h2 := srt_put h1 (nmD nm) P2
  have h3 := srt_del h2 (nmD nm)
  refine ⟨srt_put h3 _ _, ?_⟩
  unfold layF moved
  rw [get_put h3, Pg.pgs_put h1, get_del, get_put h1, get_put h]
  by_cases e1 : f = nmL nm
  · rw [if_pos e1, if_pos e1]
  · rw [if_neg e1, if_neg e1]
    by_cases e2 : f = nmD nm
    · rw [if_pos e2, if_pos e2]
    · rw [if_neg e2, if_neg e2, if_neg e2]
theorem TF.lay (t : TF nm F S) : TF nm (del nm (layF nm S.next (pagesOf (tabF (ofL S.mem))) (pagesOf (tabF (lstT (S.names ++ [S.next]) S.last))) F)) ⟨[], S.names ++ [S.next], S.tabs ++ [ofL S.mem], [], S.last⟩ := by
  have hs := (get_layF (nm := nm) t.srt S.next (pagesOf (tabF (ofL S.mem))) (pagesOf (tabF (lstT (S.names ++ [S.next]) S.last))) nm).1
  have g : ∀ f, mGet (del nm (layF nm S.next (pagesOf (tabF (ofL S.mem))) (pagesOf (tabF (lstT (S.names ++ [S.next]) S.last))) F)) f = if f = nm then none else if f = nmL nm then some (pagesOf (tabF (lstT (S.names ++ [S.next]) S.last))) else if f = nmD nm then none else if f = nmF nm S.next then some (pagesOf (tabF (ofL S.mem))) else mGet F f := fun f => by
    rw [get_del, (get_layF t.srt _ _ _ f).2]
  have hnn := t.new_file
  refine ⟨srt_del hs _, ?_, rfl, rfl, ?_, ?_, ?_, (fun r hr => by cases hr), ?_, fun h => absurd h (by simp), fun _ => ?_, ?_⟩
  · unfold pgs
    rw [g, if_pos rfl]
    show [] = lpages (logB [])
    simp [logB, lpages, npg]
  · show (S.names ++ [S.next]).length = (S.tabs ++ [ofL S.mem]).length
    rw [List.length_append, List.length_append, t.lens]; rfl
  · refine List.pairwise_append.2 ⟨t.inc, List.pairwise_singleton _ _, fun a ha b hb => ?_⟩
    rw [List.mem_singleton.1 hb]
    exact next_new t.inc a ha
  · intro T hT
    rcases List.mem_append.1 hT with hT | hT
    · exact t.tab T hT
    · rw [List.mem_singleton.1 hT]; exact ⟨ofL_tab _, ofL_fit t.mem_fit⟩
  · intro i n T h1 h2
    have h1 : (S.names ++ [S.next])[i]? = some n := h1
    have h2 : (S.tabs ++ [ofL S.mem])[i]? = some T := h2
    rw [g, if_neg (under_ne (nmF_under nm n)), if_neg (nmF_ne_L nm n), if_neg (nmF_ne_D nm n)]
    by_cases hi : i < S.names.length
    · rw [List.getElem?_append_left hi] at h1
      rw [List.getElem?_append_left (by rw [← t.lens]; exact hi)] at h2
      have hn : n ∈ S.names := List.mem_of_getElem? h1
      rw [if_neg fun e => hnn (by rw [← nmF_inj e]; exact hn)]
      exact t.files i n T h1 h2
    · rw [List.getElem?_append_right (by omega)] at h1
      rw [List.getElem?_append_right (by rw [← t.lens]; omega)] at h2
      have h0 : i - S.names.length = 0 := by
        have := (List.getElem?_eq_some_iff.1 h1).1
        simp at this; omega
      rw [h0] at h1
      rw [← t.lens, h0] at h2
      simp at h1 h2
      subst h1 h2
      rw [if_pos rfl]
  · rw [g, if_neg (under_ne (nmL_under nm)), if_pos rfl]
  · intro f hf hsm
    rw [g, if_neg (under_ne hf)] at hsm
    by_cases e1 : f = nmL nm
    · exact .inl e1
    · rw [if_neg e1] at hsm
      by_cases e2 : f = nmD nm
      · rw [if_pos e2] at hsm; cases hsm
      · rw [if_neg e2] at hsm
        by_cases e3 : f = nmF nm S.next
        · exact .inr ⟨_, List.mem_append_right _ List.mem_cons_self, e3⟩
        · rw [if_neg e3] at hsm
          rcases t.only f hf hsm with h | ⟨n, hn, e⟩
          · exact absurd h e1
          · exact .inr ⟨n, List.mem_append_left _ hn, e⟩
def TS.whole (S : TS) : List Wr := (ofL S.tabs.flatten).filter fun w => !w.gone
theorem get_dels : ∀ (l : List Str) {F : Fs} (h : SrtF F) (f : Str), SrtF (l.foldl (fun F g => del g F) F) ∧ mGet (l.foldl (fun F g => del g F) F) f = if f ∈ l then none else mGet F f
  | [], F, h, f => ⟨h, by simp⟩
  | g :: l, F, h, f => by
    have ih := get_dels l (srt_del h g) f
    refine ⟨ih.1, ?_⟩
    show mGet (l.foldl (fun F g => del g F) (del g F)) f = _
    rw [ih.2, get_del]
    by_cases h1 : f ∈ l
    · rw [if_pos h1, if_pos (List.mem_cons_of_mem _ h1)]
    · rw [if_neg h1]
      by_cases h2 : f = g
      · rw [if_pos h2, if_pos (by rw [h2]; exact List.mem_cons_self)]
      · rw [if_neg h2, if_neg (by simp [h1, h2])]
theorem tab_filter {T : List Wr} (h : Tab T) (p : Wr → Bool) : Srt ((T.filter p).map (·.key)) := List.Pairwise.sublist (List.filter_sublist.map _) h.1
theorem TF.join (t : TF nm F S) (hw : Tab S.whole) : TF nm ((S.names.map (nmF nm)).foldl (fun F g => del g F) (layF nm S.next (pagesOf (tabF S.whole)) (pagesOf (tabF (lstT [S.next] S.laid))) F)) { S with names := [S.next], tabs := [S.whole] } := by
  have hs := (get_layF (nm := nm) t.srt S.next (pagesOf (tabF S.whole)) (pagesOf (tabF (lstT [S.next] S.laid))) nm).1
  have hnn := t.new_file
  have inn : ∀ n, nmF nm n ∈ S.names.map (nmF nm) ↔ n ∈ S.names := fun n => ⟨fun h => by
    obtain ⟨m, hm, e⟩ := List.mem_map.1 h
    rw [← nmF_inj e]; exact hm, fun h => List.mem_map_of_mem h⟩
  have hL : nmL nm ∉ S.names.map (nmF nm) := fun h => by
    obtain ⟨m, _, e⟩ := List.mem_map.1 h
    exact nmF_ne_L nm m e
  have g : ∀ f, mGet ((S.names.map (nmF nm)).foldl (fun F g => del g F) (layF nm S.next (pagesOf (tabF S.whole)) (pagesOf (tabF (lstT [S.next] S.laid))) F)) f = if f ∈ S.names.map (nmF nm) then none else if f = nmL nm then some (pagesOf (tabF (lstT [S.next] S.laid))) else if f = nmD nm then none else if f = nmF nm S.next then some (pagesOf (tabF S.whole)) else mGet F f := fun f => by
    rw [(get_dels _ hs f).2, (get_layF t.srt _ _ _ f).2]
  have hnm : nm ∉ S.names.map (nmF nm) := fun h => by
    obtain ⟨m, _, e⟩ := List.mem_map.1 h
    exact under_ne (nmF_under nm m) e
  refine ⟨(get_dels _ hs nm).1, ?_, t.nums, t.mem, rfl, List.pairwise_singleton _ _, ?_, t.fit, ?_, fun h => absurd h (by simp), fun _ => ?_, ?_⟩
  · unfold pgs
    rw [g, if_neg hnm, if_neg (Ne.symm (under_ne (nmL_under nm))), if_neg (Ne.symm (under_ne (nmD_under nm))), if_neg (Ne.symm (under_ne (nmF_under nm _)))]
    exact t.log
  · intro T hT
    rw [List.mem_singleton.1 hT]
    refine ⟨hw, fun w hw => ?_⟩
    refine ofL_fit (fun w hw => ?_) w (List.mem_filter.1 hw).1
    obtain ⟨T, hT, hw⟩ := List.mem_flatten.1 hw
    exact (t.tab T hT).2 w hw
  · intro i n T h1 h2
    have h1 : [S.next][i]? = some n := h1
    have h2 : [S.whole][i]? = some T := h2
    have h0 : i = 0 := by
      have := (List.getElem?_eq_some_iff.1 h1).1
      simp at this; omega
    subst h0
    simp at h1 h2
    subst h1 h2
    rw [g, if_neg fun h => hnn ((inn _).1 h), if_neg (nmF_ne_L nm _), if_neg (nmF_ne_D nm _), if_pos rfl]
  · rw [g, if_neg hL, if_pos rfl]
  · intro f hf hsm
    rw [g] at hsm
    by_cases e0 : f ∈ S.names.map (nmF nm)
    · rw [if_pos e0] at hsm; cases hsm
    · rw [if_neg e0] at hsm
      by_cases e1 : f = nmL nm
      · exact .inl e1
      · rw [if_neg e1] at hsm
        by_cases e2 : f = nmD nm
        · rw [if_pos e2] at hsm; cases hsm
        · rw [if_neg e2] at hsm
          by_cases e3 : f = nmF nm S.next
          · exact .inr ⟨_, List.mem_cons_self, e3⟩
          · rw [if_neg e3] at hsm
            rcases t.only f hf hsm with h | ⟨n, hn, e⟩
            · exact absurd h e1
            · exact absurd (by rw [e]; exact (inn n).2 hn) e0
theorem TS.lay_pairs (S : TS) : (⟨[], S.names ++ [S.next], S.tabs ++ [ofL S.mem], [], S.last⟩ : TS).pairs = S.pairs := by
  unfold TS.pairs
  dsimp only
  rw [List.append_nil, List.flatten_append, doneAll_app, doneAll_app]
  have : [ofL S.mem].flatten = ofL S.mem := by simp
  rw [this, ofL_done (srt_doneAll _ srt_nil)]
theorem TS.join_pairs (S : TS) : ({ S with names := [S.next], tabs := [S.whole] } : TS).pairs = S.pairs := by
  unfold TS.pairs TS.whole
  dsimp only
  rw [doneAll_app, doneAll_app]
  have : [(ofL S.tabs.flatten).filter fun w => !w.gone].flatten = (ofL S.tabs.flatten).filter fun w => !w.gone := by simp
  rw [this, whole_done (ofL_tab _).1, ofL_done srt_nil]
theorem TS.append_pairs (S : TS) (l : List Wr) (r : List (Nat × List Wr)) : ({ S with mem := S.mem ++ l, recs := r } : TS).pairs = doneAll S.pairs l := by
  unfold TS.pairs
  dsimp only
  rw [← List.append_assoc, doneAll_app]
end
end Go.Ls
end

section
namespace Go.Ls
open Go Go.Vc Go.Dk Go.Kv Go.Cd Go.Pg

theorem bL_sz (s : Str) : (bytesL s).length = s.size := by show s.data.toList.length = s.data.size; rw [Array.length_toList]
theorem bL_pad (s : Str) : bytesL (pad s) = bytesL s ++ List.replicate (512 - s.size) 0 := by
  show (s.data ++ Array.replicate (512 - s.size) 0).toList = _
  rw [Array.toList_append, Array.toList_replicate]
theorem bL_part (l : List UInt8) (k : Nat) : bytesL (partB l k) = (l.drop (512 * k)).take 512 := by
  unfold partB bytesL
  simp
theorem blk_bytes' {l : List UInt8} {Z k : Nat} (h : 512 * k ≤ l.length) (h2 : 512 * (k + 1) ≤ l.length + Z) : bytesL (pad (partB l k)) = ((l ++ List.replicate Z 0).drop (512 * k)).take 512 := by
  have hs : (partB l k).size = min 512 (l.length - 512 * k) := by
    rw [← bL_sz, bL_part, List.length_take, List.length_drop]
  rw [bL_pad, bL_part, hs, List.drop_append_of_le_length h, List.take_append, List.take_replicate, List.length_drop]
  congr 2
  omega
theorem flat_blks' (l : List UInt8) (Z : Nat) : ∀ (m k : Nat), (m ≠ 0 → 512 * (k + m - 1) ≤ l.length) → 512 * (k + m) ≤ l.length + Z →
    ((List.range' k m).map fun j => pad (partB l j)).flatMap bytesL = ((l ++ List.replicate Z 0).drop (512 * k)).take (512 * m)
  | 0, k, _, _ => by simp
  | m + 1, k, h1, h2 => by
    have h1' := h1 (by omega)
    rw [List.range'_succ, List.map_cons, List.flatMap_cons, blk_bytes' (Z := Z) (by omega) (by omega), flat_blks' l Z m (k + 1) (fun _ => by omega) (by omega)]
    have e : 512 * (m + 1) = 512 + 512 * m := by omega
    have e2 : 512 * (k + 1) = 512 * k + 512 := by omega
    rw [e, e2, List.take_add, List.drop_drop]
theorem pages_flat {l : List UInt8} (hl : 0 < l.length) : (pagesOf l).flatMap bytesL = l ++ List.replicate (512 * nparts l - l.length) 0 := by
  unfold pagesOf
  rw [List.range_eq_range', flat_blks' l (512 * nparts l - l.length) (nparts l) 0 (fun _ => by unfold nparts; omega) (by unfold nparts; omega)]
  rw [Nat.mul_zero, List.drop_zero, List.take_of_length_le]
  rw [List.length_append, List.length_replicate]
  unfold nparts; omega
theorem lpage_bytes (b : List UInt8) (i : Nat) : bytesL (lpage b i) = UInt8.ofNat ((chunk b i).length % 256) :: UInt8.ofNat ((chunk b i).length / 256) :: chunk b i := rfl
theorem sput_mid {ν : Type} {n k0 : Str} {v v0 : ν} : ∀ {A : Ps ν}, (∀ q ∈ mKeys A, lt q n = true) → lt n k0 = true → sput n v (A ++ [(k0, v0)]) = A ++ [(n, v), (k0, v0)]
  | [], _, h => by
    show sput n v [(k0, v0)] = _
    unfold sput
    rw [if_neg (Ne.symm (ne_of_lt h)), if_pos h]; rfl
  | p :: A, hA, h => by
    have hp := hA p.1 List.mem_cons_self
    show sput n v (p :: (A ++ [(k0, v0)])) = _
    unfold sput
    rw [if_neg (ne_of_lt hp), if_neg (by rw [lt_asymm hp]; decide), sput_mid (fun q hq => hA q (List.mem_cons_of_mem _ hq)) h]; rfl
theorem byte_lt : ∀ i < 100, ∀ j < i, Op.bytesLess [UInt8.ofNat j] [UInt8.ofNat i] = true := by decide +kernel
theorem byte_lt_laid : ∀ i < 100, Op.bytesLess [UInt8.ofNat i] [108, 97, 105, 100] = true := by decide +kernel
theorem lstE_snoc (l : List Nat) (n : Nat) : lstE (l ++ [n]) = lstE l ++ [⟨⟨#[UInt8.ofNat l.length]⟩, numS n, false⟩] := by
  unfold lstE
  rw [List.zipIdx_append, List.map_append]
  simp
theorem lstE_keys (l : List Nat) : ∀ w ∈ lstE l, ∃ j, j < l.length ∧ w.key = ⟨#[UInt8.ofNat j]⟩ ∧ w.gone = false := fun w hw => by
  obtain ⟨p, hp, rfl⟩ := List.mem_map.1 hw
  have := (List.mem_zipIdx hp).2.1
  exact ⟨p.2, by omega, rfl, rfl⟩
theorem lstT_eq (laid : Nat) (l : List Nat) (h : l.length ≤ 100) : lstT l laid = lstE l ++ [⟨laidKey, numS laid, false⟩] := by
  have key : ∀ l : List Nat, l.length ≤ 100 → lastM (lstW l laid) = (lstE l).map (fun w => (w.key, w)) ++ [(laidKey, ⟨laidKey, numS laid, false⟩)] := by
    intro l
    induction l using list_snoc_ind with
    | h0 => intro _; rfl
    | h1 l n ih =>
      intro h
      rw [List.length_append, List.length_singleton] at h
      have e : lstW (l ++ [n]) laid = lstW l laid ++ [⟨⟨#[UInt8.ofNat l.length]⟩, numS n, false⟩] := by unfold lstW; rw [lstE_snoc]; rfl
      rw [e, lastM_snoc, ih (by omega), lstE_snoc, List.map_append]
      have hn : norm ⟨⟨#[UInt8.ofNat l.length]⟩, numS n, false⟩ = ⟨⟨#[UInt8.ofNat l.length]⟩, numS n, false⟩ := rfl
      rw [hn, sput_mid]
      · simp
      · intro q hq
        obtain ⟨p, hp, rfl⟩ := List.mem_map.1 hq
        obtain ⟨w, hw, rfl⟩ := List.mem_map.1 hp
        obtain ⟨j, hj, e, _⟩ := lstE_keys l w hw
        show lt w.key _ = true
        rw [e]
        show Op.bytesLess (ByteArray.toList _) (ByteArray.toList _) = true
        rw [ByteArray.toList_eq, ByteArray.toList_eq]
        exact byte_lt _ (by omega) _ hj
      · show Op.bytesLess (ByteArray.toList _) (ByteArray.toList _) = true
        rw [ByteArray.toList_eq, ByteArray.toList_eq]
        exact byte_lt_laid _ (by omega)
  unfold lstT ofL
  rw [key l h, List.map_append, List.map_map]
  congr 1
  exact List.map_id' _
theorem lstW_fit {names : List Nat} {laid : Nat} (hn : ∀ n ∈ names, n < 1000000) (hl : laid < 1000000) : ∀ w ∈ lstW names laid, Fit w := by
  intro w hw
  rcases List.mem_cons.1 hw with rfl | hw
  · refine ⟨by show laidKey.size ≤ 48; decide, ?_⟩
    have := numS_size (k := 5) (n := laid) (by omega)
    show (numS laid).size ≤ 160
    omega
  · obtain ⟨p, hp, rfl⟩ := List.mem_map.1 hw
    have hm : p.1 ∈ names := by
      have := (List.mem_zipIdx hp).2.2
      rw [this]; exact List.getElem_mem _
    have h1 : (⟨#[UInt8.ofNat p.2]⟩ : Str).size = 1 := rfl
    refine ⟨by show (⟨#[UInt8.ofNat p.2]⟩ : Str).size ≤ 48; omega, ?_⟩
    have := numS_size (k := 5) (n := p.1) (by have := hn _ hm; omega)
    show (numS p.1).size ≤ 160
    omega
end Go.Ls
end

section
set_option maxRecDepth 100000
namespace Go.Proofs.YtkhinnchplahlaaGreatDoor
open Go Go.Vc Go.Proofs

theorem vcLgPages (n : Int) (h : Heap) (R : Value → Heap → Prop) :
    vcF Tryz.prog Tryz.f79 7 [] [] [.int .i64 n] h R =
((510 : Int) ≠ (0 : Int) ∧ R (.int .i64 (IntKind.i64.wrap ((IntKind.i64.wrap (IntKind.i64.wrap (n + (510 : Int)) - (1 : Int))).tdiv (510 : Int)))) h) := by kernel_rfl

theorem vcLgPage (A : Option Addr) (n c : Nat) (i : Int) (h : Heap) (R : Value → Heap → Prop) :
    vcF Tryz.prog Tryz.f82 26 [] [] [.slice A n c, .int .i64 i] h R =
(∃ (n0 : Int),
 Reads Tryz.prog
 (Builtin.min_ (Array.mk [3, 3]) 3
 (Array.mk [.int .i64 (IntKind.i64.wrap (IntKind.i64.wrap (i + (1 : Int)) * (510 : Int))), .int .i64 (↑n : Int)]))
 h (.int .i64 n0) ∧
 ((0 : Int) ≤ IntKind.i64.wrap (i * (510 : Int)) ∧ IntKind.i64.wrap (i * (510 : Int)) ≤ n0 ∧ n0 ≤ (↑c : Int) ∧ (↑c : Int) ≤ (↑c : Int)) ∧
 (0 : Int) ≤ (8 : Int) ∧
 SVC Tryz.prog
 (Instr.buildSlice 146 2
 (Array.mk
 [(0, .int .u8 (IntKind.u8.wrap (↑(n0.toNat - (IntKind.i64.wrap (i * (510 : Int))).toNat) : Int))),
 (1, .int .u8 (IntKind.u8.wrap ((↑(n0.toNat - (IntKind.i64.wrap (i * (510 : Int))).toNat) : Int).fdiv ((2 : Int) ^ 8))))]))
 h fun (v1 : Value) (h2 : Heap) =>
 ∃ (a3 : Option Addr),
 ∃ (k4 : Nat),
 ∃ (k5 : Nat),
 v1 = .slice a3 k4 k5 ∧
 SVC Tryz.prog
 (Builtin.append_ (Array.mk [146, 146]) 146
 (Array.mk
 [.slice a3 k4 k5,
 .slice (subA A (IntKind.i64.wrap (i * (510 : Int))).toNat c 1) (n0.toNat - (IntKind.i64.wrap (i * (510 : Int))).toNat)
 (c - (IntKind.i64.wrap (i * (510 : Int))).toNat)]))
 h2 fun (v6 : Value) (h7 : Heap) => ∃ (a8 : Option Addr), ∃ (k9 : Nat), ∃ (k10 : Nat), v6 = .slice a8 k9 k10 ∧ R (.slice a8 k9 k10) h7) := by kernel_rfl

theorem vcLgOpen (d : Nat) (s : ByteArray) (h : Heap) (R : Value → Heap → Prop) :
    vcF Tryz.prog Tryz.f37 124 [] [] [.pointer (some ⟨d, 0, none⟩), .string s] h R =
(∃ (b0 : Bool),
 Reads Tryz.prog (eqSem BinOp.eql 25 (Operand.tmp 19) (Operand.const (.pointer none)) (.pointer (some (Addr.mk d 0 none))) (.pointer none)) h (.bool b0) ∧
 br b0 (R (.tuple (Array.mk [.pointer none, .slice none 0 0, .int .i64 (2 : Int)])) h)
 (HC Tryz.prog 34 (Array.mk [.pointer (some (Addr.mk d 0 none))]) h fun (v1 : Value) (h2 : Heap) =>
 ∃ (b3 : Bool),
 v1 = .bool b3 ∧
 br b3 (R (.tuple (Array.mk [.pointer none, .slice none 0 0, .int .i64 (8 : Int)])) h2)
 (∃ (I4 : Option Addr → Option Addr → Nat → Nat → Int → Option Addr → Nat → Nat → Int → Int → Heap → Prop),
 ∃ (I5 : Option Addr → Option Addr → Nat → Nat → Int → Option Addr → Nat → Nat → Int → Int → Heap → Nat),
 I4 none none 0 0 (0 : Int) none 0 0 (510 : Int) (0 : Int)
 (Array.push h2 (Obj.cells (Array.mk [.pointer (some (Addr.mk d 0 none)), .string s, .slice none 0 0]) 148)) ∧
 ∀ (a6 a7 : Option Addr) (k8 k9 : Nat) (n10 : Int) (a11 : Option Addr) (k12 k13 : Nat) (n14 n15 : Int) (h16 : Heap),
 I4 a6 a7 k8 k9 n10 a11 k12 k13 n14 n15 h16 →
 HC Tryz.prog 76 (Array.mk [.pointer (some (Addr.mk d 0 none)), .string s]) h16 fun (v17 : Value) (h18 : Heap) =>
 ∃ (n19 : Int),
 v17 = .int .i64 n19 ∧
 br (decide (n15 < n19) && n14 == (510 : Int))
 (HC Tryz.prog 77 (Array.mk [.pointer (some (Addr.mk d 0 none)), .string s, .int .i64 n15]) h18 fun (v20 : Value) (h21 : Heap) =>
 ∃ (a22 : Option Addr),
 ∃ (k23 : Nat),
 ∃ (k24 : Nat),
 ∃ (n25 : Int),
 v20 = .tuple (Array.mk [.slice a22 k23 k24, .int .i64 n25]) ∧
 br (n25 != (0 : Int)) (R (.tuple (Array.mk [.pointer none, .slice none 0 0, .int .i64 n25])) h21)
 (∃ (p26 : Addr),
 (a22 = some p26 ∧ (0 : Int) ≤ (0 : Int) ∧ (0 : Int) < (↑k23 : Int)) ∧
 ∃ (n27 : Int),
 Reads Tryz.prog (Instr.loadAt 5 (.pointer (some p26))) h21 (.int .u8 n27) ∧
 ∃ (p28 : Addr),
 (a22 = some p28 ∧ (0 : Int) ≤ (1 : Int) ∧ (1 : Int) < (↑k23 : Int)) ∧
 ∃ (n29 : Int),
 Reads Tryz.prog (Instr.loadAt 5 (.pointer (some (p28.add 1)))) h21 (.int .u8 n29) ∧
 (0 : Int) ≤ (8 : Int) ∧
 ∃ (n30 : Int),
 Reads Tryz.prog
 (Builtin.min_ (Array.mk [3, 3]) 3
 (Array.mk
 [.int .i64
 (IntKind.i64.wrap
 (↑(BitVec.ofInt 64 (IntKind.i64.wrap n27) |||
 BitVec.ofInt 64 (IntKind.i64.wrap (IntKind.i64.wrap n29 * (2 : Int) ^ 8))).toNat :
 Int)),
 .int .i64 (510 : Int)]))
 h21 (.int .i64 n30) ∧
 ((0 : Int) ≤ (2 : Int) ∧
 (2 : Int) ≤ IntKind.i64.wrap ((2 : Int) + n30) ∧
 IntKind.i64.wrap ((2 : Int) + n30) ≤ (↑k24 : Int) ∧ (↑k24 : Int) ≤ (↑k24 : Int)) ∧
 SVC Tryz.prog
 (Builtin.append_ (Array.mk [146, 146]) 146
 (Array.mk
 [.slice a11 k12 k13,
 .slice (subA a22 2 k24 1) ((IntKind.i64.wrap ((2 : Int) + n30)).toNat - 2)
 (k24 - 2)]))
 h21 fun (v31 : Value) (h32 : Heap) =>
 ∃ (a33 : Option Addr),
 ∃ (k34 : Nat),
 ∃ (k35 : Nat),
 v31 = .slice a33 k34 k35 ∧
 I4 a6 a7 k8 k9 n10 a33 k34 k35 n30 (IntKind.i64.wrap (n15 + (1 : Int))) h32 ∧
 I5 a6 a7 k8 k9 n10 a33 k34 k35 n30 (IntKind.i64.wrap (n15 + (1 : Int))) h32 <
 I5 a6 a7 k8 k9 n10 a11 k12 k13 n14 n15 h16))
 (HC Tryz.prog 78 (Array.mk [.slice a11 k12 k13]) h18 fun (v36 : Value) (h37 : Heap) =>
 ∃ (a38 : Option Addr),
 ∃ (k39 : Nat),
 ∃ (k40 : Nat),
 ∃ (n41 : Int),
 v36 = .tuple (Array.mk [.slice a38 k39 k40, .int .i64 n41]) ∧
 ((0 : Int) ≤ n41 ∧ n41 ≤ n41 ∧ n41 ≤ (↑k13 : Int)) ∧
 ∃ (p42 : Addr),
 some (Addr.mk (Array.size h2) 0 none) = some p42 ∧
 SVC Tryz.prog (Instr.storeAt 146 (.pointer (some (p42.add 2))) (.slice a11 n41.toNat n41.toNat)) h37
 fun (x43 : Unit) (h44 : Heap) =>
 HC Tryz.prog 76 (Array.mk [.pointer (some (Addr.mk d 0 none)), .string s]) h44 fun (v45 : Value) (h46 : Heap) =>
 ∃ (n47 : Int),
 v45 = .int .i64 n47 ∧
 HC Tryz.prog 79 (Array.mk [.int .i64 n41]) h46 fun (v48 : Value) (h49 : Heap) =>
 ∃ (n50 : Int),
 v48 = .int .i64 n50 ∧
 br (decide (n47 > n50))
 (HC Tryz.prog 79 (Array.mk [.int .i64 n41]) h49 fun (v51 : Value) (h52 : Heap) =>
 ∃ (n53 : Int),
 v51 = .int .i64 n53 ∧
 HC Tryz.prog 80 (Array.mk [.pointer (some (Addr.mk d 0 none)), .string s, .int .i64 n53])
 h52 fun (v54 : Value) (h55 : Heap) =>
 ∃ (n56 : Int),
 v54 = .int .i64 n56 ∧
 br (n56 != (0 : Int))
 (R (.tuple (Array.mk [.pointer none, .slice none 0 0, .int .i64 n56])) h55)
 ((decide (n41 < (↑k12 : Int)) = true → (510 : Int) ≠ (0 : Int)) ∧
 br (decide (n41 < (↑k12 : Int)) && decide (n41.tmod (510 : Int) > (0 : Int)))
 ((510 : Int) ≠ (0 : Int) ∧
 ∃ (p57 : Addr),
 some (Addr.mk (Array.size h2) 0 none) = some p57 ∧
 ∃ (a58 : Option Addr),
 ∃ (k59 : Nat),
 ∃ (k60 : Nat),
 Reads Tryz.prog (Instr.loadAt 146 (.pointer (some (p57.add 2)))) h55
 (.slice a58 k59 k60) ∧
 (510 : Int) ≠ (0 : Int) ∧
 HC Tryz.prog 82
 (Array.mk
 [.slice a58 k59 k60, .int .i64 (IntKind.i64.wrap (n41.tdiv (510 : Int)))])
 h55 fun (v61 : Value) (h62 : Heap) =>
 ∃ (a63 : Option Addr),
 ∃ (k64 : Nat),
 ∃ (k65 : Nat),
 v61 = .slice a63 k64 k65 ∧
 HC Tryz.prog 81
 (Array.mk
 [.pointer (some (Addr.mk d 0 none)), .string s,
 .int .i64 (IntKind.i64.wrap (n41.tdiv (510 : Int))),
 .slice a63 k64 k65])
 h62 fun (v66 : Value) (h67 : Heap) =>
 ∃ (n68 : Int),
 v66 = .int .i64 n68 ∧
 br (n68 != (0 : Int))
 (R
 (.tuple
 (Array.mk
 [.pointer none, .slice none 0 0,
 .int .i64 n68]))
 h67)
 (HC Tryz.prog 83
 (Array.mk [.pointer (some (Addr.mk d 0 none)), .string s]) h67
 fun (v69 : Value) (h70 : Heap) =>
 ∃ (n71 : Int),
 v69 = .int .i64 n71 ∧
 br (n71 != (0 : Int))
 (R
 (.tuple
 (Array.mk
 [.pointer none, .slice none 0 0,
 .int .i64 n71]))
 h70)
 (R
 (.tuple
 (Array.mk
 [.pointer (some (Addr.mk (Array.size h2) 0 none)),
 .slice a38 k39 k40, .int .i64 (0 : Int)]))
 h70)))
 (R
 (.tuple
 (Array.mk
 [.pointer (some (Addr.mk (Array.size h2) 0 none)), .slice a38 k39 k40,
 .int .i64 (0 : Int)]))
 h55)))
 ((decide (n41 < (↑k12 : Int)) = true → (510 : Int) ≠ (0 : Int)) ∧
 br (decide (n41 < (↑k12 : Int)) && decide (n41.tmod (510 : Int) > (0 : Int)))
 ((510 : Int) ≠ (0 : Int) ∧
 ∃ (p72 : Addr),
 some (Addr.mk (Array.size h2) 0 none) = some p72 ∧
 ∃ (a73 : Option Addr),
 ∃ (k74 : Nat),
 ∃ (k75 : Nat),
 Reads Tryz.prog (Instr.loadAt 146 (.pointer (some (p72.add 2)))) h49 (.slice a73 k74 k75) ∧
 (510 : Int) ≠ (0 : Int) ∧
 HC Tryz.prog 82
 (Array.mk [.slice a73 k74 k75, .int .i64 (IntKind.i64.wrap (n41.tdiv (510 : Int)))]) h49
 fun (v76 : Value) (h77 : Heap) =>
 ∃ (a78 : Option Addr),
 ∃ (k79 : Nat),
 ∃ (k80 : Nat),
 v76 = .slice a78 k79 k80 ∧
 HC Tryz.prog 81
 (Array.mk
 [.pointer (some (Addr.mk d 0 none)), .string s,
 .int .i64 (IntKind.i64.wrap (n41.tdiv (510 : Int))), .slice a78 k79 k80])
 h77 fun (v81 : Value) (h82 : Heap) =>
 ∃ (n83 : Int),
 v81 = .int .i64 n83 ∧
 br (n83 != (0 : Int))
 (R
 (.tuple
 (Array.mk
 [.pointer none, .slice none 0 0, .int .i64 n83]))
 h82)
 (HC Tryz.prog 83
 (Array.mk [.pointer (some (Addr.mk d 0 none)), .string s]) h82
 fun (v84 : Value) (h85 : Heap) =>
 ∃ (n86 : Int),
 v84 = .int .i64 n86 ∧
 br (n86 != (0 : Int))
 (R
 (.tuple
 (Array.mk
 [.pointer none, .slice none 0 0,
 .int .i64 n86]))
 h85)
 (R
 (.tuple
 (Array.mk
 [.pointer (some (Addr.mk (Array.size h2) 0 none)),
 .slice a38 k39 k40, .int .i64 (0 : Int)]))
 h85)))
 (R
 (.tuple
 (Array.mk
 [.pointer (some (Addr.mk (Array.size h2) 0 none)), .slice a38 k39 k40, .int .i64 (0 : Int)]))
 h49)))))) := by kernel_rfl

theorem vcLgAppend (l : Nat) (A : Option Addr) (n c : Nat) (h : Heap) (R : Value → Heap → Prop) :
    vcF Tryz.prog Tryz.f41 93 [] [] [.pointer (some ⟨l, 0, none⟩), .slice A n c] h R =
(∃ (b0 : Bool),
 Reads Tryz.prog (eqSem BinOp.eql 78 (Operand.tmp 10) (Operand.const (.pointer none)) (.pointer (some (Addr.mk l 0 none))) (.pointer none)) h (.bool b0) ∧
 br b0 (R (.int .i64 (2 : Int)) h)
 (∃ (p1 : Addr),
 some (Addr.mk l 0 none) = some p1 ∧
 ∃ (a2 : Option Addr),
 Reads Tryz.prog (Instr.loadAt 25 (.pointer (some p1))) h (.pointer a2) ∧
 HC Tryz.prog 34 (Array.mk [.pointer a2]) h fun (v3 : Value) (h4 : Heap) =>
 ∃ (b5 : Bool),
 v3 = .bool b5 ∧
 br b5 (R (.int .i64 (8 : Int)) h4)
 (∃ (p6 : Addr),
 some (Addr.mk l 0 none) = some p6 ∧
 ∃ (a7 : Option Addr),
 ∃ (k8 : Nat),
 ∃ (k9 : Nat),
 Reads Tryz.prog (Instr.loadAt 146 (.pointer (some (p6.add 2)))) h4 (.slice a7 k8 k9) ∧
 ∃ (I10 : Option Addr → Nat → Nat → Int → Heap → Prop),
 ∃ (I11 : Option Addr → Nat → Nat → Int → Heap → Nat),
 I10 a7 k8 k9 (0 : Int) h4 ∧
 ∀ (a12 : Option Addr) (k13 k14 : Nat) (n15 : Int) (h16 : Heap),
 I10 a12 k13 k14 n15 h16 →
 br (decide (n15 < (↑n : Int)))
 (∃ (p17 : Addr),
 (A = some p17 ∧ (0 : Int) ≤ n15 ∧ n15 < (↑n : Int)) ∧
 ∃ (s18 : ByteArray),
 Reads Tryz.prog (Instr.loadAt 9 (.pointer (some (p17.add (n15.toNat * 1))))) h16 (.string s18) ∧
 HC Tryz.prog 91 (Array.mk [.slice a12 k13 k14, .string s18]) h16 fun (v19 : Value) (h20 : Heap) =>
 ∃ (a21 : Option Addr),
 ∃ (k22 : Nat),
 ∃ (k23 : Nat),
 v19 = .slice a21 k22 k23 ∧
 I10 a21 k22 k23 (IntKind.i64.wrap (n15 + (1 : Int))) h20 ∧
 I11 a21 k22 k23 (IntKind.i64.wrap (n15 + (1 : Int))) h20 < I11 a12 k13 k14 n15 h16)
 (∃ (I24 : Heap → Prop),
 I24 h16 ∧
 HC Tryz.prog 79 (Array.mk [.int .i64 (↑k13 : Int)]) h16 fun (v25 : Value) (h26 : Heap) =>
 ∃ (n27 : Int),
 v25 = .int .i64 n27 ∧
 I24 h26 ∧
 ∃ (p28 : Addr),
 some (Addr.mk l 0 none) = some p28 ∧
 ∃ (a29 : Option Addr),
 (∀ (h30 : Heap), I24 h30 → Reads Tryz.prog (Instr.loadAt 25 (.pointer (some p28))) h30 (.pointer a29)) ∧
 ∃ (p31 : Addr),
 some (Addr.mk l 0 none) = some p31 ∧
 ∃ (s32 : ByteArray),
 (∀ (h33 : Heap),
 I24 h33 → Reads Tryz.prog (Instr.loadAt 9 (.pointer (some (p31.add 1)))) h33 (.string s32)) ∧
 HC Tryz.prog 76 (Array.mk [.pointer a29, .string s32]) h26 fun (v34 : Value) (h35 : Heap) =>
 ∃ (n36 : Int),
 v34 = .int .i64 n36 ∧
 I24 h35 ∧
 ∃ (p37 : Addr),
 some (Addr.mk l 0 none) = some p37 ∧
 ∃ (a38 : Option Addr),
 (∀ (h39 : Heap),
 I24 h39 → Reads Tryz.prog (Instr.loadAt 25 (.pointer (some p37))) h39 (.pointer a38)) ∧
 HC Tryz.prog 92 (Array.mk [.pointer a38]) h35 fun (v40 : Value) (h41 : Heap) =>
 ∃ (n42 : Int),
 v40 = .int .i64 n42 ∧
 br (decide (IntKind.i64.wrap (n27 - n36) > n42)) (R (.int .i64 (7 : Int)) h41)
 (∃ (p43 : Addr),
 some (Addr.mk l 0 none) = some p43 ∧
 ∃ (a44 : Option Addr),
 ∃ (k45 : Nat),
 ∃ (k46 : Nat),
 Reads Tryz.prog (Instr.loadAt 146 (.pointer (some (p43.add 2)))) h41
 (.slice a44 k45 k46) ∧
 (510 : Int) ≠ (0 : Int) ∧
 ∃ (I47 : Int → Int → Heap → Prop),
 ∃ (I48 : Int → Int → Heap → Nat),
 I47 (0 : Int) (IntKind.i64.wrap ((↑k45 : Int).tdiv (510 : Int))) h41 ∧
 ∀ (n49 n50 : Int) (h51 : Heap),
 I47 n49 n50 h51 →
 HC Tryz.prog 79 (Array.mk [.int .i64 (↑k13 : Int)]) h51
 fun (v52 : Value) (h53 : Heap) =>
 ∃ (n54 : Int),
 v52 = .int .i64 n54 ∧
 ∃ (p55 : Addr),
 (decide (n50 < n54) = true →
 some (Addr.mk l 0 none) = some p55) ∧
 ∃ (a56 : Option Addr),
 ∃ (k57 : Nat),
 ∃ (k58 : Nat),
 (decide (n50 < n54) = true →
 Reads Tryz.prog
 (Instr.loadAt 146
 (.pointer (some (p55.add 2))))
 h53 (.slice a56 k57 k58)) ∧
 br
 (decide (n50 < n54) &&
 decide ((↑k13 : Int) > (↑k57 : Int)))
 (∃ (I59 : Heap → Prop),
 I59 h53 ∧
 ∃ (p60 : Addr),
 some (Addr.mk l 0 none) = some p60 ∧
 ∃ (a61 : Option Addr),
 (∀ (h62 : Heap),
 I59 h62 →
 Reads Tryz.prog
 (Instr.loadAt 25
 (.pointer (some p60)))
 h62 (.pointer a61)) ∧
 ∃ (p63 : Addr),
 some (Addr.mk l 0 none) = some p63 ∧
 ∃ (s64 : ByteArray),
 (∀ (h65 : Heap),
 I59 h65 →
 Reads Tryz.prog
 (Instr.loadAt 9
 (.pointer
 (some (p63.add 1))))
 h65 (.string s64)) ∧
 HC Tryz.prog 82
 (Array.mk
 [.slice a12 k13 k14,
 .int .i64 n50])
 h53
 fun (v66 : Value) (h67 : Heap) =>
 ∃ (a68 : Option Addr),
 ∃ (k69 : Nat),
 ∃ (k70 : Nat),
 v66 =
 .slice a68 k69 k70 ∧
 I59 h67 ∧
 HC Tryz.prog 81
 (Array.mk
 [.pointer a61,
 .string s64,
 .int
 .i64 n50,
 .slice a68 k69
 k70])
 h67
 fun (v71 : Value)
 (h72 : Heap) =>
 ∃ (n73 : Int),
 v71 =
 .int
 .i64
 n73 ∧
 br
 (n73 != (0 : Int))
 (R
 (.int
 .i64
 n73)
 h72)
 (I47 n49
 (IntKind.i64.wrap
 (n50 +
 (1 :
 Int)))
 h72 ∧
 I48 n49
 (IntKind.i64.wrap
 (n50 +
 (1 :
 Int)))
 h72 <
 I48 n49 n50
 h51))
 (∃ (p74 : Addr),
 some (Addr.mk l 0 none) = some p74 ∧
 SVC Tryz.prog
 (Instr.storeAt 146
 (.pointer (some (p74.add 2)))
 (.slice a12 k13 k14))
 h53 fun (x75 : Unit) (h76 : Heap) =>
 R (.int .i64 (0 : Int)) h76)))))) := by kernel_rfl

theorem vcLgSync (l : Nat) (h : Heap) (R : Value → Heap → Prop) :
    vcF Tryz.prog Tryz.f46 32 [] [] [.pointer (some ⟨l, 0, none⟩)] h R =
(∃ (b0 : Bool),
 Reads Tryz.prog (eqSem BinOp.eql 78 (Operand.tmp 4) (Operand.const (.pointer none)) (.pointer (some (Addr.mk l 0 none))) (.pointer none)) h (.bool b0) ∧
 br b0 (R (.int .i64 (2 : Int)) h)
 (∃ (p1 : Addr),
 some (Addr.mk l 0 none) = some p1 ∧
 ∃ (a2 : Option Addr),
 Reads Tryz.prog (Instr.loadAt 25 (.pointer (some p1))) h (.pointer a2) ∧
 HC Tryz.prog 34 (Array.mk [.pointer a2]) h fun (v3 : Value) (h4 : Heap) =>
 ∃ (b5 : Bool),
 v3 = .bool b5 ∧
 br b5 (R (.int .i64 (8 : Int)) h4)
 (∃ (p6 : Addr),
 some (Addr.mk l 0 none) = some p6 ∧
 ∃ (a7 : Option Addr),
 Reads Tryz.prog (Instr.loadAt 25 (.pointer (some p6))) h4 (.pointer a7) ∧
 ∃ (p8 : Addr),
 some (Addr.mk l 0 none) = some p8 ∧
 ∃ (s9 : ByteArray),
 Reads Tryz.prog (Instr.loadAt 9 (.pointer (some (p8.add 1)))) h4 (.string s9) ∧
 HC Tryz.prog 66 (Array.mk [.pointer a7, .string s9]) h4 fun (v10 : Value) (h11 : Heap) =>
 ∃ (b12 : Bool),
 v10 = .bool b12 ∧
 br (!b12) (R (.int .i64 (0 : Int)) h11)
 (∃ (p13 : Addr),
 some (Addr.mk l 0 none) = some p13 ∧
 ∃ (a14 : Option Addr),
 Reads Tryz.prog (Instr.loadAt 25 (.pointer (some p13))) h11 (.pointer a14) ∧
 ∃ (p15 : Addr),
 some (Addr.mk l 0 none) = some p15 ∧
 ∃ (s16 : ByteArray),
 Reads Tryz.prog (Instr.loadAt 9 (.pointer (some (p15.add 1)))) h11 (.string s16) ∧
 HC Tryz.prog 83 (Array.mk [.pointer a14, .string s16]) h11 fun (v17 : Value) (h18 : Heap) =>
 ∃ (n19 : Int), v17 = .int .i64 n19 ∧ R (.int .i64 n19) h18)))) := by kernel_rfl

theorem vcLgClear (l : Nat) (h : Heap) (R : Value → Heap → Prop) :
    vcF Tryz.prog Tryz.f100 37 [] [] [.pointer (some ⟨l, 0, none⟩)] h R =
(∃ (b0 : Bool),
 Reads Tryz.prog (eqSem BinOp.eql 78 (Operand.tmp 5) (Operand.const (.pointer none)) (.pointer (some (Addr.mk l 0 none))) (.pointer none)) h (.bool b0) ∧
 br b0 (R (.int .i64 (2 : Int)) h)
 (∃ (p1 : Addr),
 some (Addr.mk l 0 none) = some p1 ∧
 ∃ (a2 : Option Addr),
 Reads Tryz.prog (Instr.loadAt 25 (.pointer (some p1))) h (.pointer a2) ∧
 HC Tryz.prog 34 (Array.mk [.pointer a2]) h fun (v3 : Value) (h4 : Heap) =>
 ∃ (b5 : Bool),
 v3 = .bool b5 ∧
 br b5 (R (.int .i64 (8 : Int)) h4)
 (∃ (p6 : Addr),
 some (Addr.mk l 0 none) = some p6 ∧
 ∃ (a7 : Option Addr),
 Reads Tryz.prog (Instr.loadAt 25 (.pointer (some p6))) h4 (.pointer a7) ∧
 ∃ (p8 : Addr),
 some (Addr.mk l 0 none) = some p8 ∧
 ∃ (s9 : ByteArray),
 Reads Tryz.prog (Instr.loadAt 9 (.pointer (some (p8.add 1)))) h4 (.string s9) ∧
 HC Tryz.prog 66 (Array.mk [.pointer a7, .string s9]) h4 fun (v10 : Value) (h11 : Heap) =>
 ∃ (b12 : Bool),
 v10 = .bool b12 ∧
 br b12
 (∃ (p13 : Addr),
 some (Addr.mk l 0 none) = some p13 ∧
 ∃ (a14 : Option Addr),
 Reads Tryz.prog (Instr.loadAt 25 (.pointer (some p13))) h11 (.pointer a14) ∧
 ∃ (p15 : Addr),
 some (Addr.mk l 0 none) = some p15 ∧
 ∃ (s16 : ByteArray),
 Reads Tryz.prog (Instr.loadAt 9 (.pointer (some (p15.add 1)))) h11 (.string s16) ∧
 HC Tryz.prog 75 (Array.mk [.pointer a14, .string s16]) h11 fun (v17 : Value) (h18 : Heap) =>
 ∃ (n19 : Int),
 v17 = .int .i64 n19 ∧
 br (n19 != (0 : Int)) (R (.int .i64 n19) h18)
 (∃ (p20 : Addr),
 some (Addr.mk l 0 none) = some p20 ∧
 SVC Tryz.prog (Instr.storeAt 146 (.pointer (some (p20.add 2))) (.slice none 0 0))
 h18 fun (x21 : Unit) (h22 : Heap) => R (.int .i64 (0 : Int)) h22))
 (∃ (p23 : Addr),
 some (Addr.mk l 0 none) = some p23 ∧
 SVC Tryz.prog (Instr.storeAt 146 (.pointer (some (p23.add 2))) (.slice none 0 0)) h11
 fun (x24 : Unit) (h25 : Heap) => R (.int .i64 (0 : Int)) h25)))) := by kernel_rfl
end Go.Proofs.YtkhinnchplahlaaGreatDoor
end

section
set_option maxRecDepth 100000
namespace Go.Proofs.YtkhinnchplahlaaGreatDoor
open Go Go.Vc Go.Proofs Go.Dk

theorem len_names1 (F : Fs) : (names F).length = F.length := by simp [mKeys]
theorem len_sub1 : ∀ {a b : List Str}, a.Nodup → (∀ n, n ∈ a → n ∈ b) → a.length ≤ b.length
  | [], b, _, _ => Nat.zero_le _
  | n :: a, b, hn, hs => by
    have h1 := List.nodup_cons.1 hn
    have h2 : n ∈ b := hs n List.mem_cons_self
    have := len_sub1 (a := a) (b := b.filter fun q => decide (q ≠ n)) h1.2 fun q hq => List.mem_filter.2 ⟨hs q (List.mem_cons_of_mem _ hq), decide_eq_true fun e => h1.1 (e ▸ hq)⟩
    have h3 : (b.filter fun q => decide (q ≠ n)).length < b.length := List.length_filter_lt_length_iff_exists.2 ⟨n, h2, by simp⟩
    simp only [List.length_cons]; omega
section
variable {h : Heap} {d : Nat} {x : D} {O N : Nat → Prop}
theorem dnames_spec (hd : DiskAt h d x O) (hn : x.now.length ≤ 1073741824) (hs : ∀ n, n ∈ names x.now → n.size ≤ 9223372036854775807) :
    HC Tryz.prog 71 #[.pointer (some ⟨d, 0, none⟩)] h fun v h' => Keep h.size h h' ∧ ∃ a k c, v = .slice a k c ∧ Sl StrE h' a k (namesD x) := by
  have hr := ready_spec hd
  have ok := hd.ok
  obtain ⟨hO, c1, p1, c2, p2, A, m, c, hp, hb⟩ := hd
  obtain ⟨mc, mp, hc, hmp, hl⟩ := hp.now
  refine HC_of_vc (args := [.pointer (some ⟨d, 0, none⟩)]) (base := 13) (cuts := []) (bigs := []) hm Tryz.func71 ?_
  rw [vcNames]
  refine hr.mono ?_
  rintro v h1 ⟨rfl, rfl⟩
  have hkeys : ∀ n, n ∈ mKeys mc ↔ n ∈ names x.now := fun n => by
    have h1 := hl.count n
    constructor
    · intro hm
      by_cases h0 : n ∈ names x.now
      · exact h0
      · rw [mGet_none.2 h0] at h1; exact absurd hm (mGet_none.1 h1)
    · intro hm
      by_cases h0 : n ∈ mKeys mc
      · exact h0
      · rw [mGet_none.2 h0] at h1
        cases h2 : mGet x.now n with
        | none => exact absurd hm (mGet_none.1 h2)
        | some l => rw [h2] at h1; cases h1
  have hnd : (mKeys mc).Nodup := by obtain ⟨_, _, _, _, h, _⟩ := hc; exact h
  have hlen : mc.length ≤ x.now.length := by
    have := len_sub1 hnd fun n hn => (hkeys n).1 hn
    rw [len_names1] at this
    simpa [mKeys] using this
  refine ⟨_, rfl, br_intro (fun e => ?_) fun e => ⟨_, rfl, _, reads_load scMc (cell_cells0 hp.box rfl), (sortedKeys hc (by omega) fun s hs' => hs s ((hkeys s).1 hs')).mono ?_⟩⟩
  · have hdn : x.down = true := by cases hdn : x.down <;> simp [hdn] at e ⊢
    exact ⟨Keep.refl _ _, _, _, _, rfl, by unfold namesD; rw [if_pos hdn]; exact Sl.nil _ _⟩
  · have hdn : x.down = false := by cases hdn : x.down <;> simp [hdn] at e ⊢
    rintro v h6 ⟨k6, hc6⟩
    refine ⟨_, rfl, hc6.mono ?_⟩
    rintro v h9 ⟨k9, a, c', K, hK, hKm, hKl, rfl, hsl⟩
    have hKn : K = names x.now := srt_ext hK ok.now fun q => (hKm q).trans (hkeys q)
    refine ⟨_, _, _, rfl, k6.trans (k9.mono k6.size), _, _, _, rfl, ?_⟩
    unfold namesD
    rw [if_neg (by rw [hdn]; decide), ← hKn]; exact hsl
theorem DN.names (hs : DN N d x h) (hn : x.now.length ≤ 1073741824) (hb : ∀ n, n ∈ names x.now → n.size ≤ 9223372036854775807) : HC Tryz.prog 71 #[.pointer (some ⟨d, 0, none⟩)] h fun v h' => Keep h.size h h' ∧ ∃ a k c, v = .slice a k c ∧ Sl StrE h' a k (namesD x) := by
  obtain ⟨O, h1, _, _⟩ := hs
  exact dnames_spec h1 hn hb
end
end Go.Proofs.YtkhinnchplahlaaGreatDoor
end

section
set_option maxRecDepth 100000
namespace Go.Proofs.YtkhinnchplahlaaGreatDoor
open Go Go.Vc Go.Proofs Go.Dk Go.Cd Go.Ls
open Go.Pg (Quiet Nx layW)

theorem scDp2 : scT Tryz.prog 25 = true := by kernel_rfl
theorem scBs2 : scT Tryz.prog 146 = true := by kernel_rfl
theorem szBs2 : szOf Tryz.prog 146 = some 1 := by kernel_rfl
theorem undLp : Tryz.prog.underlying 78 = some (.pointer (Tryz.prog.pointee 78)) := by kernel_rfl
def Nv (N : Nat → Prop) (h h' : Heap) (q : Nat) : Prop := N q ∨ (h.size ≤ q ∧ q < h'.size)
section
variable {h h' : Heap} {d : Nat} {x : D} {N : Nat → Prop}
theorem DN.wide2 (hd : DN N d x h) (k : Keep h.size h h') : DN (Nv N h h') d x h' :=
  hd.own (S := fun _ => False) k.m (fun _ _ h => h.elim) fun q hq => hq.elim (fun h1 => ⟨.inl h1, Nat.lt_of_lt_of_le (hd.lt h1) k.size⟩) fun h1 => ⟨.inr h1.1, h1.2⟩
end
theorem own_box {α : Type} {E : Enc α} {T B b : Nat} {h : Heap} {xs : List α} {n : Nat} (hn : xs.length = n) (hB : B ≤ b) (hb : h[b]? = some (.cells (xs.flatMap E.enc).toArray T (0, 0))) : Vc.Own E T B h (some ⟨b, 0, none⟩) n n xs :=
  ⟨hn, Nat.le_refl _, .inr ⟨b, _, rfl, hB, hb, by rw [List.size_toArray, flat_len, hn], [], by simp⟩⟩
theorem bsB2' (a b : UInt8) : bsCells Tryz.prog 146 2 [(0, .int .u8 (a.toNat : Int)), (1, .int .u8 (b.toNat : Int))] = some (5, [a, b].flatMap ByteE.enc) := by kernel_rfl
theorem lg_pages {h : Heap} {n : Nat} (hn : n ≤ 1073741824) : HC Tryz.prog 79 #[.int .i64 n] h fun v h' => h' = h ∧ v = .int .i64 (npg n : Nat) := by
  refine HC_of_vc (args := [.int .i64 n]) (base := 7) (cuts := []) (bigs := []) hm Tryz.func79 ?_
  rw [vcLgPages, wrap_i64 (n := (n : Int) + 510) (by omega) (by omega), wrap_i64 (n := (n : Int) + 510 - 1) (by omega) (by omega)]
  refine ⟨by decide, rfl, ?_⟩
  have h1 : ((n : Int) + 510 - 1) = ((n + 509 : Nat) : Int) := by omega
  have h2 : (((n + 509 : Nat) : Int).tdiv 510) = (((n + 509) / 510 : Nat) : Int) := rfl
  rw [h1, h2, wrap_i64 (by omega) (by omega)]; rfl
theorem lg_page {h : Heap} {A : Option Addr} {n c : Nat} {b : List UInt8} (hs : Sl ByteE h A n b) (hc : n ≤ c) (hn : n ≤ 1073741824) (i : Nat) (hi : 510 * i ≤ n) :
    HC Tryz.prog 82 #[.slice A n c, .int .i64 i] h fun v h' => Keep h.size h h' ∧ ∃ a k c', v = .slice a k c' ∧ Vc.Own ByteE 5 h.size h' a k c' (bytesL (lpage b i)) := by
  have hl := hs.1
  refine HC_of_vc (args := [.slice A n c, .int .i64 i]) (base := 26) (cuts := []) (bigs := []) hm Tryz.func82 ?_
  rw [vcLgPage]
  have e1 : IntKind.i64.wrap (IntKind.i64.wrap ((i : Int) + 1) * 510) = ((510 * (i + 1) : Nat) : Int) := by
    rw [wrap_i64 (n := (i : Int) + 1) (by omega) (by omega), wrap_i64 (by omega) (by omega)]; omega
  have e2 : IntKind.i64.wrap ((i : Int) * 510) = ((510 * i : Nat) : Int) := by rw [wrap_i64 (by omega) (by omega)]; omega
  rw [e1, e2]
  refine ⟨_, reads_min, ?_⟩
  have e3 : (if ((n : Nat) : Int) < ((510 * (i + 1) : Nat) : Int) then ((n : Nat) : Int) else ((510 * (i + 1) : Nat) : Int)) = ((min (510 * (i + 1)) n : Nat) : Int) := by split <;> omega
  rw [e3]
  have hk : (((min (510 * (i + 1)) n : Nat) : Int).toNat - ((510 * i : Nat) : Int).toNat) = (chunk b i).length := by
    rw [Int.toNat_natCast, Int.toNat_natCast, chunk_len, hl]; omega
  rw [hk, u8_b8, u8_b8, b8_nat]
  have hcl := chunk_len b i
  have e4 : b8 (((chunk b i).length : Int).fdiv ((2 : Int) ^ 8)) = UInt8.ofNat ((chunk b i).length / 256) := by
    have : (((chunk b i).length : Int).fdiv ((2 : Int) ^ 8)) = (((chunk b i).length / 256 : Nat) : Int) := by
      have h0 : ((2 : Int) ^ 8) = ((256 : Nat) : Int) := by decide
      rw [h0, ← Int.ofNat_fdiv]
    rw [this, b8_nat]
  have e5 : UInt8.ofNat ((chunk b i).length) = UInt8.ofNat ((chunk b i).length % 256) := by
    apply UInt8.toNat_inj.1
    rw [UInt8.toNat_ofNat', UInt8.toNat_ofNat']; omega
  rw [e4, e5]
  refine ⟨⟨by omega, by omega, by omega, by omega⟩, by decide, svc_buildSlice (bsB2' _ _) ⟨_, _, _, rfl, ?_⟩⟩
  have kp := keep_push h (.cells ([UInt8.ofNat ((chunk b i).length % 256), UInt8.ofNat ((chunk b i).length / 256)].flatMap ByteE.enc).toArray 5 (0, 0))
  have bp := push_at h (.cells ([UInt8.ofNat ((chunk b i).length % 256), UInt8.ofNat ((chunk b i).length / 256)].flatMap ByteE.enc).toArray 5 (0, 0))
  have o1 : Vc.Own ByteE 5 h.size _ (some ⟨h.size, 0, none⟩) 2 2 [UInt8.ofNat ((chunk b i).length % 256), UInt8.ofNat ((chunk b i).length / 256)] := own_box (E := ByteE) (n := 2) rfl (Nat.le_refl h.size) bp
  have sd : Sl ByteE h (subA A (510 * i) c 1) (chunk b i).length (chunk b i) := by
    have h1 := sl_drop hs hi hc
    have h2 := sl_take (l := (chunk b i).length) h1 (by omega)
    have h3 : (b.drop (510 * i)).take (chunk b i).length = chunk b i := by
      unfold chunk
      rw [List.length_take, List.length_drop, List.take_eq_take_iff]
      simp
    rw [h3] at h2
    exact h2
  rw [Int.toNat_natCast]
  refine svc_append app_b o1 kp.size (sd.keep kp) (by omega) fun a' c' h7 o7 u7 b7 => ⟨_, _, _, rfl, ?_, _, _, _, rfl, o7⟩
  exact kp.trans (u7.keep kp.size fun q hq => (o1.block q hq).1)
structure LogAt (h : Heap) (l d : Nat) (nm : Str) (A : Option Addr) (n c : Nat) (b : List UInt8) : Prop where
  box : h[l]? = some (.cells #[.pointer (some ⟨d, 0, none⟩), .string nm, .slice A n c] 148 (0, 0))
  sl : Sl ByteE h A n b
  cap : n ≤ c
  lim : n ≤ 268435456
section
variable {h h' : Heap} {l d n c : Nat} {nm : Str} {A : Option Addr} {b : List UInt8} {x : D} {N S : Nat → Prop}
theorem LogAt.rd (hl : LogAt h l d nm A n c b) : Reads Tryz.prog (Instr.loadAt 25 (.pointer (some ⟨l, 0, none⟩))) h (.pointer (some ⟨d, 0, none⟩)) := reads_load scDp2 (cell_cells0 hl.box rfl)
theorem LogAt.rn (hl : LogAt h l d nm A n c b) : Reads Tryz.prog (Instr.loadAt 9 (.pointer (some ((⟨l, 0, none⟩ : Addr).add 1)))) h (.string nm) := reads_load scS (cell_cells hl.box rfl)
theorem LogAt.rb (hl : LogAt h l d nm A n c b) : Reads Tryz.prog (Instr.loadAt 146 (.pointer (some ((⟨l, 0, none⟩ : Addr).add 2)))) h (.slice A n c) := reads_load scBs2 (cell_cells hl.box rfl)
theorem LogAt.updM (hl : LogAt h l d nm A n c b) (u : UpdM S h h') (h1 : ¬ S l) (h2 : n ≠ 0 → ∀ q, blk A q → ¬ S q) : LogAt h' l d nm A n c b := ⟨u.cells hl.box h1, hl.sl.updM u h2, hl.cap, hl.lim⟩
theorem LogAt.keep (hl : LogAt h l d nm A n c b) (k : Keep h.size h h') : LogAt h' l d nm A n c b := hl.updM (S := fun _ => False) k.m id fun _ _ _ => id
theorem lsync_spec (hl : LogAt h l d nm A n c b) (hd : DN N d x h) (hdn : x.down = false) (hw : x.waits.length ≤ 100000000) :
    HC Tryz.prog 46 #[.pointer (some ⟨l, 0, none⟩)] h fun v h' => Stp N d (if Dk.has x nm then (Dk.sync x nm).2 else x) h h' ∧ v = .int .i64 (if Dk.has x nm then (Dk.sync x nm).1 else 0) := by
  refine HC_of_vc (args := [.pointer (some ⟨l, 0, none⟩)]) (base := 32) (cuts := []) (bigs := []) hm Tryz.func46 ?_
  rw [vcLgSync]
  refine ⟨_, reads_eql_nil undLp, br_intro (fun e => by cases e) fun _ => ⟨_, rfl, _, hl.rd, hd.down.mono ?_⟩⟩
  rintro v h4 ⟨rfl, rfl⟩
  rw [hdn]
  refine ⟨_, rfl, br_intro (fun e => by cases e) fun _ => ⟨_, rfl, _, hl.rd, _, rfl, _, hl.rn, (hd.has nm).mono ?_⟩⟩
  rintro v h11 ⟨rfl, rfl⟩
  refine ⟨_, rfl, br_intro (fun e => ?_) fun e => ?_⟩
  · have e : Dk.has x nm = false := by simpa using e
    rw [e]
    exact ⟨⟨hd, UpdM.refl _ _⟩, rfl⟩
  · have e : Dk.has x nm = true := by simpa using e
    rw [e]
    refine ⟨_, rfl, _, hl.rd, _, rfl, _, hl.rn, (hd.sync (by omega)).mono ?_⟩
    rintro v h18 ⟨st, rfl⟩
    exact ⟨_, rfl, st, rfl⟩
theorem lclear_spec (hl : LogAt h l d nm A n c b) (hd : DN N d x h) (hN : N l) (hA : n ≠ 0 → ∀ q, blk A q → N q) (hq : Quiet x) (hw : x.waits.length ≤ 100000000) :
    HC Tryz.prog 100 #[.pointer (some ⟨l, 0, none⟩)] h fun v h' => v = .int .i64 0 ∧ ∃ x', DN N d x' h' ∧ Quiet x' ∧ x'.room = x.room ∧ x'.now = del nm x.now ∧ x'.waits.length ≤ x.waits.length ∧ LogAt h' l d nm none 0 0 [] ∧ UpdM (fun q => ¬ N q ∨ q = l) h h' := by
  refine HC_of_vc (args := [.pointer (some ⟨l, 0, none⟩)]) (base := 37) (cuts := []) (bigs := []) hm Tryz.func100 ?_
  rw [vcLgClear]
  have hdn := hq.down
  refine ⟨_, reads_eql_nil undLp, br_intro (fun e => by cases e) fun _ => ⟨_, rfl, _, hl.rd, hd.down.mono ?_⟩⟩
  rintro v h4 ⟨rfl, rfl⟩
  rw [hdn]
  refine ⟨_, rfl, br_intro (fun e => by cases e) fun _ => ⟨_, rfl, _, hl.rd, _, rfl, _, hl.rn, (hd.has nm).mono ?_⟩⟩
  rintro v h11 ⟨rfl, rfl⟩
  have fin : ∀ {G : Heap} {y : D}, LogAt G l d nm A n c b → DN N d y G → Quiet y → y.room = x.room → y.now = del nm x.now → y.waits.length ≤ x.waits.length → UpdM (fun q => ¬ N q) h11 G →
      SVC Tryz.prog (Instr.storeAt 146 (Value.pointer (some ((⟨l, 0, none⟩ : Addr).add (2 : Nat)))) (Value.slice none (0 : Nat) (0 : Nat))) G fun (x21 : Unit) (h22 : Heap) =>
      (Value.int IntKind.i64 (0 : Int) = .int .i64 0 ∧ ∃ x', DN N d x' h22 ∧ Quiet x' ∧ x'.room = x.room ∧ x'.now = del nm x.now ∧ x'.waits.length ≤ x.waits.length ∧ LogAt h22 l d nm none 0 0 [] ∧ UpdM (fun q => ¬ N q ∨ q = l) h11 h22) := by
    intro G y lG dG qy hr hnow hwy uG
    refine svc_store_box (k := 2) szBs2 lG.box (by simp) rfl (one_slice _ _ _) fun h' z' b' u' => ⟨rfl, y, ?_, qy, hr, hnow, hwy, ⟨b', Sl.nil _ _, Nat.le_refl _, Nat.zero_le _⟩, ?_⟩
    · exact dG.keepM u'.m fun q _ e => by rw [e]; exact hN
    · exact (uG.mono fun q hq => .inl hq).trans (u'.m.mono fun q hq => .inr hq)
  refine ⟨_, rfl, br_intro (fun e => ?_) fun e => ?_⟩
  · have hsm : (mGet x.now nm).isSome = true := by
      unfold Dk.has at e
      rw [Bool.and_eq_true] at e
      exact e.2
    refine ⟨_, rfl, _, hl.rd, _, rfl, _, hl.rn, (hd.remove (by omega)).mono ?_⟩
    rintro v h18 ⟨st, rfl⟩
    obtain ⟨r1, r2⟩ := Pg.remove_nx hq hsm
    rw [r1]
    refine ⟨_, rfl, br_intro (fun e => by simp at e) fun _ => ⟨_, rfl, fin (hl.updM st.up (fun h => h hN) ?_) st.dn r2.q r2.room r2.now (Pg.remove_waits x nm) st.up⟩⟩
    exact fun h0 q hq hn => hn (hA h0 q hq)
  · have hnn : mGet x.now nm = none := by
      unfold Dk.has at e
      rw [hdn] at e
      simpa using e
    have hdel : del nm x.now = x.now := by
      unfold del
      refine List.filter_eq_self.2 fun p hp => decide_eq_true fun e => ?_
      rw [mGet_none] at hnn
      exact hnn (by rw [← e]; exact List.mem_map_of_mem (f := fun p : Str × List Str => p.1) hp)
    exact ⟨_, rfl, fin hl hd hq rfl hdel.symm (Nat.le_refl _) (UpdM.refl _ _)⟩
end
end Go.Proofs.YtkhinnchplahlaaGreatDoor
end

section
set_option maxRecDepth 100000
namespace Go.Proofs.YtkhinnchplahlaaGreatDoor
open Go Go.Vc Go.Proofs

theorem vcClTabs (A : Option Addr) (n c : Nat) (h : Heap) (R : Value → Heap → Prop) :
    vcF Tryz.prog Tryz.f50 8 [] [] [.slice A n c] h R =
(∃ (b0 : Bool),
 Reads Tryz.prog (eqSem BinOp.eql 80 (Operand.tmp 3) (Operand.const (.slice none 0 0)) (.slice A n c) (.slice none 0 0)) h
 (.bool b0) ∧
 br b0 (R (.slice none 0 0) h)
 (SVC Tryz.prog (Instr.buildSlice 80 0 (Array.mk [])) h fun (v1 : Value) (h2 : Heap) =>
 ∃ (a3 : Option Addr),
 ∃ (k4 : Nat),
 ∃ (k5 : Nat),
 v1 = .slice a3 k4 k5 ∧
 SVC Tryz.prog (Builtin.append_ (Array.mk [80, 80]) 80 (Array.mk [.slice a3 k4 k5, .slice A n c])) h2 fun (v6 : Value) (h7 : Heap) =>
 ∃ (a8 : Option Addr), ∃ (k9 : Nat), ∃ (k10 : Nat), v6 = .slice a8 k9 k10 ∧ R (.slice a8 k9 k10) h7)) := by kernel_rfl

theorem vcClInts (A : Option Addr) (n c : Nat) (h : Heap) (R : Value → Heap → Prop) :
    vcF Tryz.prog Tryz.f98 8 [] [] [.slice A n c] h R =
(∃ (b0 : Bool),
 Reads Tryz.prog (eqSem BinOp.eql 79 (Operand.tmp 3) (Operand.const (.slice none 0 0)) (.slice A n c) (.slice none 0 0)) h
 (.bool b0) ∧
 br b0 (R (.slice none 0 0) h)
 (SVC Tryz.prog (Instr.buildSlice 79 0 (Array.mk [])) h fun (v1 : Value) (h2 : Heap) =>
 ∃ (a3 : Option Addr),
 ∃ (k4 : Nat),
 ∃ (k5 : Nat),
 v1 = .slice a3 k4 k5 ∧
 SVC Tryz.prog (Builtin.append_ (Array.mk [79, 79]) 79 (Array.mk [.slice a3 k4 k5, .slice A n c])) h2 fun (v6 : Value) (h7 : Heap) =>
 ∃ (a8 : Option Addr), ∃ (k9 : Nat), ∃ (k10 : Nat), v6 = .slice a8 k9 k10 ∧ R (.slice a8 k9 k10) h7)) := by kernel_rfl

theorem vcClWrs (A : Option Addr) (n c : Nat) (h : Heap) (R : Value → Heap → Prop) :
    vcF Tryz.prog Tryz.f108 8 [] [] [.slice A n c] h R =
(∃ (b0 : Bool),
 Reads Tryz.prog (eqSem BinOp.eql 32 (Operand.tmp 3) (Operand.const (.slice none 0 0)) (.slice A n c) (.slice none 0 0)) h
 (.bool b0) ∧
 br b0 (R (.slice none 0 0) h)
 (SVC Tryz.prog (Instr.buildSlice 32 0 (Array.mk [])) h fun (v1 : Value) (h2 : Heap) =>
 ∃ (a3 : Option Addr),
 ∃ (k4 : Nat),
 ∃ (k5 : Nat),
 v1 = .slice a3 k4 k5 ∧
 SVC Tryz.prog (Builtin.append_ (Array.mk [32, 32]) 32 (Array.mk [.slice a3 k4 k5, .slice A n c])) h2 fun (v6 : Value) (h7 : Heap) =>
 ∃ (a8 : Option Addr), ∃ (k9 : Nat), ∃ (k10 : Nat), v6 = .slice a8 k9 k10 ∧ R (.slice a8 k9 k10) h7)) := by kernel_rfl

theorem vcContI (A : Option Addr) (n c : Nat) (k : Int) (h : Heap) (R : Value → Heap → Prop) :
    vcF Tryz.prog Tryz.f74 9 [] [] [.slice A n c, .int .i64 k] h R =
(HC Tryz.prog 120 (Array.mk [.slice A n c, .int .i64 k]) h fun (v0 : Value) (h1 : Heap) =>
 ∃ (n2 : Int), v0 = .int .i64 n2 ∧ R (.bool (decide (n2 ≥ (0 : Int)))) h1) := by kernel_rfl

theorem vcIdxI (A : Option Addr) (n c : Nat) (k : Int) (h : Heap) (R : Value → Heap → Prop) :
    vcF Tryz.prog Tryz.f120 19 [] [] [.slice A n c, .int .i64 k] h R =
(∃ (I0 : Int → Int → Heap → Prop),
 ∃ (I1 : Int → Int → Heap → Nat),
 I0 (0 : Int) (0 : Int) h ∧
 ∀ (n2 n3 : Int) (h4 : Heap),
 I0 n2 n3 h4 →
 br (decide (n3 < (↑n : Int)))
 (∃ (p5 : Addr),
 (A = some p5 ∧ (0 : Int) ≤ n3 ∧ n3 < (↑n : Int)) ∧
 ∃ (n6 : Int),
 Reads Tryz.prog (Instr.loadAt 3 (.pointer (some (p5.add (n3.toNat * 1))))) h4 (.int .i64 n6) ∧
 br (k == n6) (R (.int .i64 n3) h4) (I0 n2 (IntKind.i64.wrap (n3 + (1 : Int))) h4 ∧ I1 n2 (IntKind.i64.wrap (n3 + (1 : Int))) h4 < I1 n2 n3 h4))
 (R (.int .i64 (-1 : Int)) h4)) := by kernel_rfl

theorem vcBinW (A : Option Addr) (n c : Nat) (k : ByteArray) (g : Nat) (h : Heap) (R : Value → Heap → Prop) :
    vcF Tryz.prog Tryz.f101 49 [] [] [.slice A n c, .string k, .func (.func g) #[] #[]] h R =
(∃ (I0 : Int → Int → Heap → Prop),
 ∃ (I1 : Int → Int → Heap → Nat),
 I0 (0 : Int) (↑n : Int) h ∧
 ∀ (n2 n3 : Int) (h4 : Heap),
 I0 n2 n3 h4 →
 br (decide (n2 < n3))
 ((0 : Int) ≤ (1 : Int) ∧
 ∃ (p5 : Addr),
 (A = some p5 ∧
 (0 : Int) ≤ IntKind.i64.wrap ((IntKind.u64.wrap (IntKind.i64.wrap (n2 + n3))).fdiv ((2 : Int) ^ 1)) ∧
 IntKind.i64.wrap ((IntKind.u64.wrap (IntKind.i64.wrap (n2 + n3))).fdiv ((2 : Int) ^ 1)) < (↑n : Int)) ∧
 ∃ (s6 : ByteArray),
 ∃ (s7 : ByteArray),
 ∃ (b8 : Bool),
 Reads Tryz.prog
 (Instr.loadAt 42
 (.pointer (some (p5.add ((IntKind.i64.wrap ((IntKind.u64.wrap (IntKind.i64.wrap (n2 + n3))).fdiv ((2 : Int) ^ 1))).toNat * 3)))))
 h4 (.agg (Array.mk [.string s6, .string s7, .bool b8])) ∧
 br (fnOk Tryz.prog g)
 (HC Tryz.prog g (Array.mk [.agg (Array.mk [.string s6, .string s7, .bool b8]), .string k]) h4 fun (v9 : Value) (h10 : Heap) =>
 ∃ (n11 : Int),
 v9 = .int .i64 n11 ∧
 br (decide (n11 < (0 : Int)))
 (I0 (IntKind.i64.wrap (IntKind.i64.wrap ((IntKind.u64.wrap (IntKind.i64.wrap (n2 + n3))).fdiv ((2 : Int) ^ 1)) + (1 : Int))) n3 h10 ∧
 I1 (IntKind.i64.wrap (IntKind.i64.wrap ((IntKind.u64.wrap (IntKind.i64.wrap (n2 + n3))).fdiv ((2 : Int) ^ 1)) + (1 : Int))) n3 h10 < I1 n2 n3 h4)
 (I0 n2 (IntKind.i64.wrap ((IntKind.u64.wrap (IntKind.i64.wrap (n2 + n3))).fdiv ((2 : Int) ^ 1))) h10 ∧
 I1 n2 (IntKind.i64.wrap ((IntKind.u64.wrap (IntKind.i64.wrap (n2 + n3))).fdiv ((2 : Int) ^ 1))) h10 < I1 n2 n3 h4))
 False)
 (∃ (p12 : Addr),
 (decide (n2 < (↑n : Int)) = true → A = some p12 ∧ (0 : Int) ≤ n2 ∧ n2 < (↑n : Int)) ∧
 ∃ (s13 : ByteArray),
 ∃ (s14 : ByteArray),
 ∃ (b15 : Bool),
 (decide (n2 < (↑n : Int)) = true →
 Reads Tryz.prog (Instr.loadAt 42 (.pointer (some (p12.add (n2.toNat * 3))))) h4
 (.agg (Array.mk [.string s13, .string s14, .bool b15]))) ∧
 br (decide (n2 < (↑n : Int)))
 (br (fnOk Tryz.prog g)
 (HC Tryz.prog g (Array.mk [.agg (Array.mk [.string s13, .string s14, .bool b15]), .string k]) h4 fun (v16 : Value) (h17 : Heap) =>
 ∃ (n18 : Int), v16 = .int .i64 n18 ∧ R (.tuple (Array.mk [.int .i64 n2, .bool (n18 == (0 : Int))])) h17)
 False)
 (R (.tuple (Array.mk [.int .i64 n2, .bool false])) h4))) := by kernel_rfl

theorem vcDelW (A : Option Addr) (n c : Nat) (g : Nat) (h : Heap) (R : Value → Heap → Prop) :
    vcF Tryz.prog Tryz.f104 42 [] [] [.slice A n c, .func (.func g) #[] #[]] h R =
(HC Tryz.prog 90 (Array.mk [.slice A n c, .func (Fn.func g) (Array.mk []) (Array.mk [])]) h fun (v0 : Value) (h1 : Heap) =>
 ∃ (n2 : Int),
 v0 = .int .i64 n2 ∧
 br (n2 == (-1 : Int)) (R (.slice A n c) h1)
 (∃ (I3 : Int → Int → Heap → Prop),
 ∃ (I4 : Int → Int → Heap → Nat),
 I3 n2 (IntKind.i64.wrap (n2 + (1 : Int))) h1 ∧
 ∀ (n5 n6 : Int) (h7 : Heap),
 I3 n5 n6 h7 →
 br (decide (n6 < (↑n : Int)))
 (∃ (p8 : Addr),
 (A = some p8 ∧ (0 : Int) ≤ n6 ∧ n6 < (↑n : Int)) ∧
 ∃ (s9 : ByteArray),
 ∃ (s10 : ByteArray),
 ∃ (b11 : Bool),
 Reads Tryz.prog (Instr.loadAt 42 (.pointer (some (p8.add (n6.toNat * 3))))) h7
 (.agg (Array.mk [.string s9, .string s10, .bool b11])) ∧
 SVC Tryz.prog
 (Instr.storeAt 42 (.pointer (some (Addr.mk (Array.size h7) 0 none))) (.agg (Array.mk [.string s9, .string s10, .bool b11])))
 (Array.push h7 (Obj.cells (Array.mk [.string (ByteArray.mk (Array.mk [])), .string (ByteArray.mk (Array.mk [])), .bool false]) 42))
 fun (x12 : Unit) (h13 : Heap) =>
 ∃ (s14 : ByteArray),
 ∃ (s15 : ByteArray),
 ∃ (b16 : Bool),
 Reads Tryz.prog (Instr.loadAt 42 (.pointer (some (Addr.mk (Array.size h7) 0 none)))) h13
 (.agg (Array.mk [.string s14, .string s15, .bool b16])) ∧
 br (fnOk Tryz.prog g)
 (HC Tryz.prog g (Array.mk [.agg (Array.mk [.string s14, .string s15, .bool b16])]) h13 fun (v17 : Value) (h18 : Heap) =>
 ∃ (b19 : Bool),
 v17 = .bool b19 ∧
 br (!b19)
 (∃ (s20 : ByteArray),
 ∃ (s21 : ByteArray),
 ∃ (b22 : Bool),
 Reads Tryz.prog (Instr.loadAt 42 (.pointer (some (Addr.mk (Array.size h7) 0 none)))) h18
 (.agg (Array.mk [.string s20, .string s21, .bool b22])) ∧
 ∃ (p23 : Addr),
 (A = some p23 ∧ (0 : Int) ≤ n5 ∧ n5 < (↑n : Int)) ∧
 SVC Tryz.prog
 (Instr.storeAt 42 (.pointer (some (p23.add (n5.toNat * 3))))
 (.agg (Array.mk [.string s20, .string s21, .bool b22])))
 h18 fun (x24 : Unit) (h25 : Heap) =>
 I3 (IntKind.i64.wrap (n5 + (1 : Int))) (IntKind.i64.wrap (n6 + (1 : Int))) h25 ∧
 I4 (IntKind.i64.wrap (n5 + (1 : Int))) (IntKind.i64.wrap (n6 + (1 : Int))) h25 < I4 n5 n6 h7)
 (I3 n5 (IntKind.i64.wrap (n6 + (1 : Int))) h18 ∧ I4 n5 (IntKind.i64.wrap (n6 + (1 : Int))) h18 < I4 n5 n6 h7))
 False)
 (((0 : Int) ≤ n5 ∧ n5 ≤ (↑n : Int) ∧ (↑n : Int) ≤ (↑c : Int) ∧ (↑c : Int) ≤ (↑c : Int)) ∧
 SVC Tryz.prog (Builtin.clear_ (Array.mk [32]) 0 (Array.mk [.slice (subA A n5.toNat c 3) (n - n5.toNat) (c - n5.toNat)])) h7
 fun (v26 : Value) (h27 : Heap) => v26 = .tuple (Array.mk []) ∧ ((0 : Int) ≤ n5 ∧ n5 ≤ (↑c : Int) ∧ (↑c : Int) ≤ (↑c : Int)) ∧ R (.slice A n5.toNat c) h27))) := by kernel_rfl

theorem vcContB (A : Option Addr) (n c : Nat) (g : Nat) (h : Heap) (R : Value → Heap → Prop) :
    vcF Tryz.prog Tryz.f149 9 [] [] [.slice A n c, .func (.func g) #[] #[]] h R =
(HC Tryz.prog 181 (Array.mk [.slice A n c, .func (Fn.func g) (Array.mk []) (Array.mk [])]) h fun (v0 : Value) (h1 : Heap) =>
 ∃ (n2 : Int), v0 = .int .i64 n2 ∧ R (.bool (decide (n2 ≥ (0 : Int)))) h1) := by kernel_rfl

theorem vcIdxB (A : Option Addr) (n c : Nat) (g : Nat) (h : Heap) (R : Value → Heap → Prop) :
    vcF Tryz.prog Tryz.f181 19 [] [] [.slice A n c, .func (.func g) #[] #[]] h R =
(∃ (I0 : Int → Int → Heap → Prop),
 ∃ (I1 : Int → Int → Heap → Nat),
 I0 (0 : Int) (0 : Int) h ∧
 ∀ (n2 n3 : Int) (h4 : Heap),
 I0 n2 n3 h4 →
 br (decide (n3 < (↑n : Int)))
 (∃ (p5 : Addr),
 (A = some p5 ∧ (0 : Int) ≤ n3 ∧ n3 < (↑n : Int)) ∧
 ∃ (n6 : Int),
 Reads Tryz.prog (Instr.loadAt 5 (.pointer (some (p5.add (n3.toNat * 1))))) h4 (.int .u8 n6) ∧
 br (fnOk Tryz.prog g)
 (HC Tryz.prog g (Array.mk [.int .u8 n6]) h4 fun (v7 : Value) (h8 : Heap) =>
 ∃ (b9 : Bool),
 v7 = .bool b9 ∧ br b9 (R (.int .i64 n3) h8) (I0 n2 (IntKind.i64.wrap (n3 + (1 : Int))) h8 ∧ I1 n2 (IntKind.i64.wrap (n3 + (1 : Int))) h8 < I1 n2 n3 h4))
 False)
 (R (.int .i64 (-1 : Int)) h4)) := by kernel_rfl

theorem vcColl (v : Value) (h : Heap) (R : Value → Heap → Prop) :
    vcF Tryz.prog Tryz.f137 5 [] [] [v] h R =
(HC Tryz.prog 164 (Array.mk [.slice none 0 0, v]) h fun (v0 : Value) (h1 : Heap) =>
 ∃ (a2 : Option Addr), ∃ (k3 : Nat), ∃ (k4 : Nat), v0 = .slice a2 k3 k4 ∧ R (.slice a2 k3 k4) h1) := by kernel_rfl

theorem vcAppSeq (A : Option Addr) (n c : Nat) (v : Value) (h : Heap) (R : Value → Heap → Prop) :
    vcF Tryz.prog Tryz.f164 13 [] [] [.slice A n c, v] h R =
(∃ (x0 : List (Option Addr × Nat × Nat)),
 ∃ (I1 : Heap → Prop),
 ∃ (I2 : Nat → Heap → Prop),
 ∃ (I3 : Heap → Prop),
 Gives Tryz.prog v I1 x0 ∧
 (∀ (k4 : Nat) (h5 : Heap), I2 k4 h5 → I1 h5) ∧
 (∀ (k6 : Nat) (h7 h8 : Heap), I2 k6 h7 → Turn h7 h8 → I2 k6 h8) ∧
 (∀ (h9 h10 : Heap), I3 h9 → Turn h9 h10 → I3 h10) ∧
 I2 0 (Array.push h (Obj.cells (Array.mk [.slice A n c]) 209)) ∧
 (∀ (k11 : Nat) (a12 : Option Addr) (k13 k14 : Nat) (h15 : Heap),
 Nth x0 k11 (a12, k13, k14) →
 I2 k11 h15 →
 ∀ (h16 : Heap),
 Turn h15 h16 →
 ∃ (a17 : Option Addr),
 ∃ (k18 : Nat),
 ∃ (k19 : Nat),
 Reads Tryz.prog (Instr.loadAt 209 (.pointer (some (Addr.mk (Array.size h) 0 none)))) h16 (.slice a17 k18 k19) ∧
 SVC Tryz.prog (Instr.buildSlice 209 1 (Array.mk [(0, .slice a12 k13 k14)])) h16 fun (v20 : Value) (h21 : Heap) =>
 ∃ (a22 : Option Addr),
 ∃ (k23 : Nat),
 ∃ (k24 : Nat),
 v20 = .slice a22 k23 k24 ∧
 SVC Tryz.prog (Builtin.append_ (Array.mk [209, 209]) 209 (Array.mk [.slice a17 k18 k19, .slice a22 k23 k24])) h21
 fun (v25 : Value) (h26 : Heap) =>
 ∃ (a27 : Option Addr),
 ∃ (k28 : Nat),
 ∃ (k29 : Nat),
 v25 = .slice a27 k28 k29 ∧
 SVC Tryz.prog (Instr.storeAt 209 (.pointer (some (Addr.mk (Array.size h) 0 none))) (.slice a27 k28 k29)) h26
 fun (x30 : Unit) (h31 : Heap) => I2 (k11 + 1) h31) ∧
 (∀ (h32 : Heap),
 I2 x0.length h32 →
 ∃ (a33 : Option Addr),
 ∃ (k34 : Nat),
 ∃ (k35 : Nat),
 Reads Tryz.prog (Instr.loadAt 209 (.pointer (some (Addr.mk (Array.size h) 0 none)))) h32 (.slice a33 k34 k35) ∧
 ∀ (h36 : Heap), Turn h32 h36 → R (.slice a33 k34 k35) h36) ∧
 ∀ (h37 : Heap), I3 h37 → ∀ (h38 : Heap), Turn h37 h38 → R (.slice none 0 0) h38) := by kernel_rfl

theorem vcCutP (s p : ByteArray) (h : Heap) (R : Value → Heap → Prop) :
    vcF Tryz.prog Tryz.f72 11 [] [] [.string s, .string p] h R =
(HC Tryz.prog 118 (Array.mk [.string s, .string p]) h fun (v0 : Value) (h1 : Heap) =>
 ∃ (s2 : ByteArray), ∃ (b3 : Bool), v0 = .tuple (Array.mk [.string s2, .bool b3]) ∧ R (.tuple (Array.mk [.string s2, .bool b3])) h1) := by kernel_rfl

theorem vcCutPi (s p : ByteArray) (h : Heap) (R : Value → Heap → Prop) :
    vcF Tryz.prog Tryz.f118 15 [] [] [.string s, .string p] h R =
(HC Tryz.prog 159 (Array.mk [.string s, .string p]) h fun (v0 : Value) (h1 : Heap) =>
 ∃ (b2 : Bool),
 v0 = .bool b2 ∧
 br (!b2) (R (.tuple (Array.mk [.string s, .bool false])) h1)
 (((0 : Int) ≤ (↑p.size : Int) ∧ (↑p.size : Int) ≤ (↑s.size : Int) ∧ (↑s.size : Int) ≤ (↑s.size : Int)) ∧
 R (.tuple (Array.mk [.string (s.extract p.size s.size), .bool true])) h1)) := by kernel_rfl

theorem vcHasP (s p : ByteArray) (h : Heap) (R : Value → Heap → Prop) :
    vcF Tryz.prog Tryz.f159 18 [] [] [.string s, .string p] h R =
((decide ((↑s.size : Int) ≥ (↑p.size : Int)) = true → (0 : Int) ≤ (0 : Int) ∧ (0 : Int) ≤ (↑p.size : Int) ∧ (↑p.size : Int) ≤ (↑s.size : Int)) ∧
 R (.bool (decide ((↑s.size : Int) ≥ (↑p.size : Int)) && (s.extract 0 p.size).toList == p.toList)) h) := by kernel_rfl

theorem vcTbGet1 (k v : ByteArray) (g : Bool) (l : ByteArray) (h : Heap) (R : Value → Heap → Prop) :
    vcF Tryz.prog Tryz.f102 9 [] [] [.agg #[.string k, .string v, .bool g], .string l] h R =
(∃ (s0 : ByteArray),
 Reads Tryz.prog (Instr.loadAt 9 (.pointer (some (Addr.mk (Array.size h) 0 none))))
 (Array.push h (Obj.cells (Array.mk [.string k, .string v, .bool g]) 42)) (.string s0) ∧
 HC Tryz.prog 103 (Array.mk [.string s0, .string l]) (Array.push h (Obj.cells (Array.mk [.string k, .string v, .bool g]) 42))
 fun (v1 : Value) (h2 : Heap) => ∃ (n3 : Int), v1 = .int .i64 n3 ∧ R (.int .i64 n3) h2) := by kernel_rfl

theorem vcTbMerge1 (k v : ByteArray) (g : Bool) (h : Heap) (R : Value → Heap → Prop) :
    vcF Tryz.prog Tryz.f105 5 [] [] [.agg #[.string k, .string v, .bool g]] h R =
(∃ (b0 : Bool),
 Reads Tryz.prog (Instr.loadAt 4 (.pointer (some ((Addr.mk (Array.size h) 0 none).add 2))))
 (Array.push h (Obj.cells (Array.mk [.string k, .string v, .bool g]) 42)) (.bool b0) ∧
 R (.bool b0) (Array.push h (Obj.cells (Array.mk [.string k, .string v, .bool g]) 42))) := by kernel_rfl

theorem vcTbRead1 (c : Int) (h : Heap) (R : Value → Heap → Prop) :
    vcF Tryz.prog Tryz.f150 5 [] [] [.int .u8 c] h R =
(R (.bool (c != (0 : Int))) h) := by kernel_rfl

theorem vcLmApply1 (k v : ByteArray) (g : Bool) (h : Heap) (R : Value → Heap → Prop) :
    vcF Tryz.prog Tryz.f39 13 [] [] [.agg #[.string k, .string v, .bool g]] h R =
(∃ (s0 : ByteArray),
 Reads Tryz.prog (Instr.loadAt 9 (.pointer (some (Addr.mk (Array.size h) 0 none))))
 (Array.push h (Obj.cells (Array.mk [.string k, .string v, .bool g]) 42)) (.string s0) ∧
 ∃ (s1 : ByteArray),
 ((!decide ((↑s0.size : Int) > (48 : Int))) = true →
 Reads Tryz.prog (Instr.loadAt 9 (.pointer (some ((Addr.mk (Array.size h) 0 none).add 1))))
 (Array.push h (Obj.cells (Array.mk [.string k, .string v, .bool g]) 42)) (.string s1)) ∧
 R (.bool (decide ((↑s0.size : Int) > (48 : Int)) || decide ((↑s1.size : Int) > (160 : Int))))
 (Array.push h (Obj.cells (Array.mk [.string k, .string v, .bool g]) 42))) := by kernel_rfl

end Go.Proofs.YtkhinnchplahlaaGreatDoor
end

section
set_option maxRecDepth 100000
namespace Go.Proofs.YtkhinnchplahlaaGreatDoor
open Go Go.Vc Go.Proofs Go.Dk Go.Kv Go.Ls

def TbE : Enc Nat := ⟨1, fun t => [.pointer (some ⟨t, 0, none⟩)], fun _ => rfl, fun p v h => by simp at h; subst h; exact one_pointer _⟩
theorem app_wr : App Tryz.prog 32 42 WrE.sz 40 (.agg #[.string ⟨#[]⟩, .string ⟨#[]⟩, .bool false]) := ⟨by kernel_rfl, by kernel_rfl, by kernel_rfl, by kernel_rfl, rfl, by decide, by decide⟩
theorem app_tb : App Tryz.prog 80 95 TbE.sz 8 (.pointer none) := ⟨by kernel_rfl, by kernel_rfl, by kernel_rfl, by kernel_rfl, rfl, by decide, by decide⟩
theorem app_is : App Tryz.prog 79 3 (IntE .i64).sz 8 (.int .i64 0) := ⟨by kernel_rfl, by kernel_rfl, by kernel_rfl, by kernel_rfl, rfl, by decide, by decide⟩
theorem app_bss : App Tryz.prog 209 146 SliceE.sz 24 (.slice none 0 0) := ⟨by kernel_rfl, by kernel_rfl, by kernel_rfl, by kernel_rfl, rfl, by decide, by decide⟩
theorem bs_wr (w : Wr) : bsCells Tryz.prog 32 1 [(0, .agg (Array.mk [.string w.key, .string w.val, .bool w.gone]))] = some (42, WrE.enc w) :=
  bs_one (sz := 3) (z := .agg #[.string ⟨#[]⟩, .string ⟨#[]⟩, .bool false]) (v := .agg #[.string w.key, .string w.val, .bool w.gone]) (by kernel_rfl) (by kernel_rfl) (by kernel_rfl) rfl (by decide) (by decide) rfl
theorem bs_tb (t : Nat) : bsCells Tryz.prog 80 1 [(0, .pointer (some ⟨t, 0, none⟩))] = some (95, TbE.enc t) :=
  bs_one (sz := 1) (z := .pointer none) (by kernel_rfl) (by kernel_rfl) (by kernel_rfl) rfl (by decide) (by decide) rfl
theorem bs_i (n : Int) : bsCells Tryz.prog 79 1 [(0, .int .i64 n)] = some (3, (IntE .i64).enc n) :=
  bs_one (sz := 1) (z := .int .i64 0) (by kernel_rfl) (by kernel_rfl) (by kernel_rfl) rfl (by decide) (by decide) rfl
theorem bs_bss (s : Option Addr × Nat × Nat) : bsCells Tryz.prog 209 1 [(0, .slice s.1 s.2.1 s.2.2)] = some (146, SliceE.enc s) :=
  bs_one (sz := 1) (z := .slice none 0 0) (by kernel_rfl) (by kernel_rfl) (by kernel_rfl) rfl (by decide) (by decide) rfl
theorem reads_eql_sl {P : Program} {t e : TypeId} {x y : Operand} {a : Option Addr} {n c : Nat} {h : Heap} (ht : P.underlying t = some (.slice e)) :
    Reads P (eqSem .eql t x y (.slice a n c) (.slice none (0 : Nat) (0 : Nat))) h (.bool a.isNone) :=
  ⟨fun w _ => by simp [eqSem, eqGuard, Go.Lib.run_eql_slice_nil w t e a n c 0 0 ht]⟩
theorem clone_core {α : Type} {E : Enc α} {P : Program} {t e : TypeId} {bytes : Nat} {z : Value} (hA : App P t e E.sz bytes z) {h : Heap} {A : Option Addr} {n c : Nat} {xs : List α} {x y : Operand} {ty : TypeId} {R : Value → Heap → Prop}
    (hs : Sl E h A n xs) (hroom : (4 * (0 + n) + 192) * bytes ≤ 2 ^ 48) (k : ∀ a' c' h', Keep h.size h h' → Vc.Own E e h.size h' a' n c' xs → R (.slice a' n c') h') :
    ∃ b0 : Bool, Reads P (eqSem BinOp.eql t x y (Value.slice A n c) (Value.slice none (0 : Nat) (0 : Nat))) h (Value.bool b0) ∧
      br b0 (R (Value.slice none (0 : Nat) (0 : Nat)) h)
        (SVC P (Instr.buildSlice t (0 : Nat) (Array.mk [])) h fun (v1 : Value) (h2 : Heap) => ∃ (a3 : Option Addr), ∃ (k4 : Nat), ∃ (k5 : Nat), v1 = Value.slice a3 k4 k5 ∧
          SVC P (Builtin.append_ (Array.mk [t, t]) ty (Array.mk [Value.slice a3 k4 k5, Value.slice A n c])) h2 fun (v6 : Value) (h7 : Heap) =>
            ∃ (a8 : Option Addr), ∃ (k9 : Nat), ∃ (k10 : Nat), v6 = Value.slice a8 k9 k10 ∧ R (Value.slice a8 k9 k10) h7) := by
  refine ⟨_, reads_eql_sl hA.und, br_intro (fun e0 => ?_) fun _ => ?_⟩
  · cases A with
    | some p => cases e0
    | none =>
      have hx : xs = [] := by rcases hs.2 with h0 | ⟨p, e1, _⟩; exact h0; cases e1
      have hn := hs.1
      rw [hx] at hn
      subst hx
      simp at hn
      subst hn
      exact k none 0 h (Keep.refl _ _) (Vc.Own.nil _ _ _)
  · refine svc_empty_of hA fun o1 => ⟨_, _, _, rfl, ?_⟩
    have kp := keep_push h (.cells #[] e (0, 0))
    refine svc_append (ty := ty) hA o1 kp.size (hs.keep kp) hroom fun a' c' h' o' u' b' => ⟨_, _, _, rfl, ?_⟩
    rw [Nat.zero_add, List.nil_append] at *
    exact k a' c' h' (kp.trans (u'.keep kp.size fun q hq => (o1.block q hq).1)) o'
theorem cloneT_spec {h : Heap} {A : Option Addr} {n c : Nat} {xs : List Nat} (hs : Sl TbE h A n xs) (hn : n ≤ 1000000) :
    HC Tryz.prog 50 #[.slice A n c] h fun v h' => Keep h.size h h' ∧ ∃ a' c', v = .slice a' n c' ∧ Vc.Own TbE 95 h.size h' a' n c' xs := by
  refine HC_of_vc (args := [.slice A n c]) (base := 8) (cuts := []) (bigs := []) kM Tryz.func50 ?_
  rw [vcClTabs]
  exact clone_core (R := fun v h' => Keep h.size h h' ∧ ∃ a' c', v = .slice a' n c' ∧ Vc.Own TbE 95 h.size h' a' n c' xs) app_tb hs (by omega) fun a' c' h' k o => ⟨k, a', c', rfl, o⟩
theorem cloneI_spec {h : Heap} {A : Option Addr} {n c : Nat} {xs : List Int} (hs : Sl (IntE .i64) h A n xs) (hn : n ≤ 1000000) :
    HC Tryz.prog 98 #[.slice A n c] h fun v h' => Keep h.size h h' ∧ ∃ a' c', v = .slice a' n c' ∧ Vc.Own (IntE .i64) 3 h.size h' a' n c' xs := by
  refine HC_of_vc (args := [.slice A n c]) (base := 8) (cuts := []) (bigs := []) kM Tryz.func98 ?_
  rw [vcClInts]
  exact clone_core (R := fun v h' => Keep h.size h h' ∧ ∃ a' c', v = .slice a' n c' ∧ Vc.Own (IntE .i64) 3 h.size h' a' n c' xs) app_is hs (by omega) fun a' c' h' k o => ⟨k, a', c', rfl, o⟩
theorem cloneW_spec {h : Heap} {A : Option Addr} {n c : Nat} {xs : List Wr} (hs : Sl WrE h A n xs) (hn : n ≤ 1000000) :
    HC Tryz.prog 108 #[.slice A n c] h fun v h' => Keep h.size h h' ∧ ∃ a' c', v = .slice a' n c' ∧ Vc.Own WrE 42 h.size h' a' n c' xs := by
  refine HC_of_vc (args := [.slice A n c]) (base := 8) (cuts := []) (bigs := []) kM Tryz.func108 ?_
  rw [vcClWrs]
  exact clone_core (R := fun v h' => Keep h.size h h' ∧ ∃ a' c', v = .slice a' n c' ∧ Vc.Own WrE 42 h.size h' a' n c' xs) app_wr hs (by omega) fun a' c' h' k o => ⟨k, a', c', rfl, o⟩
theorem contI_spec {h : Heap} {A : Option Addr} {n c : Nat} {xs : List Int} {k : Int} (hs : Sl (IntE .i64) h A n xs) (hn : n ≤ 1000000) :
    HC Tryz.prog 74 #[.slice A n c, .int .i64 k] h fun v h' => h' = h ∧ v = .bool (decide (k ∈ xs)) := by
  have hl := hs.1
  have idx : HC Tryz.prog 120 #[.slice A n c, .int .i64 k] h fun v h' => h' = h ∧ ∃ i : Int, v = .int .i64 i ∧ decide (i ≥ 0) = decide (k ∈ xs) := by
    refine HC_of_vc (args := [.slice A n c, .int .i64 k]) (base := 19) (cuts := []) (bigs := []) kM Tryz.func120 ?_
    rw [vcIdxI]
    refine ⟨fun _ n3 H => ∃ j : Nat, n3 = j ∧ j ≤ n ∧ H = h ∧ k ∉ xs.take j, fun _ n3 _ => n - n3.toNat, ⟨0, rfl, Nat.zero_le _, rfl, by simp⟩, ?_⟩
    rintro n2 n3 H ⟨j, rfl, hj, rfl, hno⟩
    refine br_intro (fun e => ?_) fun e => ?_
    · have e := of_decide_eq_true e
      have hq : xs[j]? = some (xs[j]'(by omega)) := List.getElem?_eq_getElem (by omega)
      have htk : xs.take (j + 1) = xs.take j ++ [xs[j]'(by omega)] := List.take_succ_eq_append_getElem (by omega)
      have hmem := List.getElem_mem (by omega : j < xs.length)
      generalize xs[j]'(by omega) = w at hq htk hmem
      obtain ⟨p5, ea, hp⟩ := hs.get hq
      refine ⟨p5, ⟨ea, by omega, e⟩, w, reads_load kI (by rw [Int.toNat_natCast]; exact hp 0 _ rfl), br_intro (fun e2 => ⟨rfl, _, rfl, ?_⟩) fun e2 => ?_⟩
      · have e2 : k = w := by simpa using e2
        rw [e2, decide_eq_true (by omega), decide_eq_true hmem]
      · have e2 : ¬ k = w := by simpa using e2
        rw [wrap_i64 (by omega) (by omega)]
        refine ⟨⟨j + 1, rfl, by omega, rfl, ?_⟩, by dsimp only; omega⟩
        rw [htk, List.mem_append]
        intro h2
        rcases h2 with h2 | h2
        · exact hno h2
        · exact e2 (List.mem_singleton.1 h2)
    · have e := of_decide_eq_false e
      have hjn : j = n := by omega
      subst hjn
      rw [← hl, List.take_length] at hno
      exact ⟨rfl, _, rfl, by rw [decide_eq_false hno]; decide⟩
  refine HC_of_vc (args := [.slice A n c, .int .i64 k]) (base := 9) (cuts := []) (bigs := []) kM Tryz.func74 ?_
  rw [vcContI]
  refine idx.mono ?_
  rintro v h1 ⟨rfl, i, rfl, e⟩
  exact ⟨_, rfl, rfl, by rw [e]⟩
theorem cmp_spec (a b : Str) (h : Heap) : HC Tryz.prog 103 #[.string a, .string b] h fun v h' => h' = h ∧ v = .int .i64 (cmpS a b) :=
  ⟨fun w hw => (Tryz.compareS a b w).mono fun e w' ⟨he, hw'⟩ => ⟨_, he, by rw [hw']; exact Sane.refl _, by rw [hw', hw], rfl⟩⟩
theorem get1_spec (w : Wr) (k : Str) (h : Heap) : HC Tryz.prog 102 #[wrVal w, .string k] h fun v h' => Keep h.size h h' ∧ v = .int .i64 (cmpS w.key k) := by
  refine HC_of_vc (args := [wrVal w, .string k]) (base := 9) (cuts := []) (bigs := []) kM Tryz.func102 ?_
  rw [vcTbGet1]
  have hb := push_at h (wrBox w)
  refine ⟨_, wr_k hb, (cmp_spec w.key k _).mono ?_⟩
  rintro v h2 ⟨rfl, rfl⟩
  exact ⟨_, rfl, keep_push _ _, rfl⟩
theorem merge1_spec (w : Wr) (h : Heap) : HC Tryz.prog 105 #[wrVal w] h fun v h' => Keep h.size h h' ∧ v = .bool w.gone := by
  refine HC_of_vc (args := [wrVal w]) (base := 5) (cuts := []) (bigs := []) kM Tryz.func105 ?_
  rw [vcTbMerge1]
  exact ⟨_, wr_g (push_at h (wrBox w)), keep_push _ _, rfl⟩
theorem read1_spec (b : UInt8) (h : Heap) : HC Tryz.prog 150 #[.int .u8 (b.toNat : Nat)] h fun v h' => h' = h ∧ v = .bool ((b.toNat : Int) != 0) := by
  refine HC_of_vc (args := [.int .u8 (b.toNat : Nat)]) (base := 5) (cuts := []) (bigs := []) kM Tryz.func150 ?_
  rw [vcTbRead1]
  exact ⟨rfl, rfl⟩
theorem lmlong_spec (w : Wr) (g : Heap) : HC Tryz.prog 39 #[wrVal w] g fun v g' => Keep g.size g g' ∧ v = .bool (decide (48 < w.key.size) || decide (160 < w.val.size)) := by
  refine HC_of_vc (args := [.agg #[.string w.key, .string w.val, .bool w.gone]]) (base := 13) (cuts := []) (bigs := []) kM Tryz.func39 ?_
  rw [vcLmApply1]
  have hb := push_at g (wrBox w)
  refine ⟨_, wr_k hb, _, fun _ => wr_v hb, keep_push _ _, ?_⟩
  congr 2
  · exact decide_eq_decide.2 (by constructor <;> intro h <;> omega)
  · exact decide_eq_decide.2 (by constructor <;> intro h <;> omega)
theorem contB_spec {h : Heap} {A : Option Addr} {n c : Nat} {l : List UInt8} (hs : Sl ByteE h A n l) (hn : n ≤ 1073741824) :
    HC Tryz.prog 149 #[.slice A n c, .func (.func 150) #[] #[]] h fun v h' => h' = h ∧ v = .bool (l.any fun b => (b.toNat : Int) != 0) := by
  have hl := hs.1
  have idx : HC Tryz.prog 181 #[.slice A n c, .func (.func 150) #[] #[]] h fun v h' => h' = h ∧ ∃ i : Int, v = .int .i64 i ∧ decide (i ≥ 0) = l.any fun b => (b.toNat : Int) != 0 := by
    refine HC_of_vc (args := [.slice A n c, .func (.func 150) #[] #[]]) (base := 19) (cuts := []) (bigs := []) kM Tryz.func181 ?_
    rw [vcIdxB]
    refine ⟨fun _ n3 H => ∃ j : Nat, n3 = j ∧ j ≤ n ∧ H = h ∧ ((l.take j).any fun b => (b.toNat : Int) != 0) = false, fun _ n3 _ => n - n3.toNat, ⟨0, rfl, Nat.zero_le _, rfl, by simp⟩, ?_⟩
    rintro n2 n3 H ⟨j, rfl, hj, rfl, hno⟩
    refine br_intro (fun e => ?_) fun e => ?_
    · have e := of_decide_eq_true e
      have hq : l[j]? = some (l[j]'(by omega)) := List.getElem?_eq_getElem (by omega)
      have htk : l.take (j + 1) = l.take j ++ [l[j]'(by omega)] := List.take_succ_eq_append_getElem (by omega)
      have hmem := List.getElem_mem (by omega : j < l.length)
      generalize l[j]'(by omega) = w at hq htk hmem
      obtain ⟨p5, ea, hcell⟩ := hs.byte (j := j) (by omega)
      have hw : l[j] = w := by rw [List.getElem?_eq_getElem (by omega)] at hq; exact Option.some.inj hq
      rw [hw] at hcell
      refine ⟨p5, ⟨ea, by omega, e⟩, _, reads_load (by kernel_rfl) (by rw [Int.toNat_natCast, Nat.mul_one]; exact hcell), br_intro (fun _ => ?_) fun e => by rw [show fnOk Tryz.prog 150 = true by kernel_rfl] at e; cases e⟩
      refine (read1_spec w H).mono ?_
      rintro v h10 ⟨rfl, rfl⟩
      refine ⟨_, rfl, br_intro (fun e2 => ⟨rfl, _, rfl, ?_⟩) fun e2 => ?_⟩
      · rw [decide_eq_true (by omega)]
        exact (List.any_eq_true.2 ⟨w, hmem, e2⟩).symm
      · rw [wrap_i64 (by omega) (by omega)]
        exact ⟨⟨j + 1, rfl, by omega, rfl, by rw [htk, List.any_append, hno]; simpa using e2⟩, by dsimp only; omega⟩
    · have e := of_decide_eq_false e
      have hjn : j = n := by omega
      subst hjn
      rw [← hl, List.take_length] at hno
      exact ⟨rfl, _, rfl, by rw [hno]; decide⟩
  refine HC_of_vc (args := [.slice A n c, .func (.func 150) #[] #[]]) (base := 9) (cuts := []) (bigs := []) kM Tryz.func149 ?_
  rw [vcContB]
  refine idx.mono ?_
  rintro v h1 ⟨rfl, i, rfl, e⟩
  exact ⟨_, rfl, rfl, by rw [e]⟩
theorem cutP_spec (s p : Str) (h : Heap) (hs : s.size ≤ 9223372036854775807) : HC Tryz.prog 72 #[.string s, .string p] h fun v h' => h' = h ∧
    ((∃ r, s.data.toList = p.data.toList ++ r ∧ v = .tuple #[.string ⟨r.toArray⟩, .bool true]) ∨ ((∀ r, s.data.toList ≠ p.data.toList ++ r) ∧ v = .tuple #[.string s, .bool false])) := by
  refine HC_of_vc (args := [.string s, .string p]) (base := 11) (cuts := []) (bigs := []) kM Tryz.func72 ?_
  rw [vcCutP]
  have inner : HC Tryz.prog 118 #[.string s, .string p] h fun v h' => h' = h ∧
    ((∃ r, s.data.toList = p.data.toList ++ r ∧ v = .tuple #[.string ⟨r.toArray⟩, .bool true]) ∨ ((∀ r, s.data.toList ≠ p.data.toList ++ r) ∧ v = .tuple #[.string s, .bool false])) := by
    refine HC_of_vc (args := [.string s, .string p]) (base := 15) (cuts := []) (bigs := []) kM Tryz.func118 ?_
    rw [vcCutPi]
    have has : HC Tryz.prog 159 #[.string s, .string p] h fun v h' => h' = h ∧ v = .bool (decide ((s.size : Int) ≥ (p.size : Int)) && (s.extract 0 p.size).toList == p.toList) := by
      refine HC_of_vc (args := [.string s, .string p]) (base := 18) (cuts := []) (bigs := []) kM Tryz.func159 ?_
      rw [vcHasP]
      exact ⟨fun e => ⟨by decide, by omega, of_decide_eq_true e⟩, rfl, rfl⟩
    refine has.mono ?_
    rintro v h1 ⟨rfl, rfl⟩
    have hex : (s.extract 0 p.size).toList = s.data.toList.take p.size := by
      rw [ByteArray.toList_eq, ByteArray.data_extract, Array.toList_extract, List.extract_eq_take_drop]; simp
    have hps : p.data.toList.length = p.size := by rw [Array.length_toList]; rfl
    have hss : s.data.toList.length = s.size := by rw [Array.length_toList]; rfl
    rw [hex, ByteArray.toList_eq]
    refine ⟨_, rfl, br_intro (fun e => ⟨rfl, .inr ⟨fun r hr => ?_, rfl⟩⟩) fun e => ?_⟩
    · have h1 : p.size ≤ s.size := by rw [← hps, ← hss, hr, List.length_append]; omega
      rw [decide_eq_true (by omega), hr, ← hps, List.take_left] at e
      simp at e
    · have e : decide ((s.size : Int) ≥ (p.size : Int)) = true ∧ (s.data.toList.take p.size == p.data.toList) = true := by simpa using e
      obtain ⟨e1, e2⟩ := e
      have e1 := of_decide_eq_true e1
      have e2 : s.data.toList.take p.size = p.data.toList := by simpa using e2
      refine ⟨⟨by omega, e1, by omega⟩, rfl, .inl ⟨s.data.toList.drop p.size, ?_, ?_⟩⟩
      · rw [← e2, List.take_append_drop]
      · have : s.extract p.size s.size = ⟨(s.data.toList.drop p.size).toArray⟩ := by
          apply str_of
          rw [ByteArray.data_extract, Array.toList_extract, List.extract_eq_take_drop, List.take_of_length_le (by rw [List.length_drop]; omega)]
        rw [this]
  refine inner.mono ?_
  rintro v h1 ⟨rfl, h1 | h1⟩
  · obtain ⟨r, e, rfl⟩ := h1
    exact ⟨_, _, rfl, rfl, .inl ⟨r, e, rfl⟩⟩
  · obtain ⟨e, rfl⟩ := h1
    exact ⟨_, _, rfl, rfl, .inr ⟨e, rfl⟩⟩
end Go.Proofs.YtkhinnchplahlaaGreatDoor
end

section
set_option maxRecDepth 100000
namespace Go.Proofs.YtkhinnchplahlaaGreatDoor
open Go Go.Vc Go.Proofs Go.Dk Go.Kv

noncomputable def Ms := strMk Tryz.prog 101 9 9 Str Value.string (by kernel_rfl) (by kernel_rfl)
theorem kMs : scT Tryz.prog 101 = true := by kernel_rfl
theorem kBe : scT Tryz.prog 105 = true := by kernel_rfl
theorem kDp : scT Tryz.prog 25 = true := by kernel_rfl
theorem uSt : Tryz.prog.underlying 56 = some (.pointer (Tryz.prog.pointee 56)) := by kernel_rfl
theorem uDp : Tryz.prog.underlying 25 = some (.pointer (Tryz.prog.pointee 25)) := by kernel_rfl
abbrev memBox (r : Nat) : Obj := .cells #[.iface 103 (.agg #[.map (some r)]), .pointer none, .int .i64 1] 107 (0, 0)
structure MemS (s : Nat) (u : Nat) (N : Nat → Prop) (P : Ps Str) (h : Heap) : Prop where
  at_ : ∃ r m, h[s]? = some (memBox r) ∧ ¬ N r ∧ MapAt Ms h r m ∧ ∀ k, mGet m k = mGet P k
  srt : SrtP P
  ns : ¬ N s
  lt : ∀ q, N q → q < h.size
section
variable {s u : Nat} {N : Nat → Prop} {P : Ps Str} {h : Heap}
theorem MemS.own (hm : MemS s u N P h) {T N' : Nat → Prop} {h' : Heap} (up : UpdM T h h') (hT : ∀ q, q < h.size → T q → N q) (hN : ∀ q, N' q → (N q ∨ h.size ≤ q) ∧ q < h'.size) : MemS s u N' P h' := by
  obtain ⟨⟨r, m, hb, hr, hma, hg⟩, h2, h3, h4⟩ := hm
  have ls := at_lt hb
  have lr := hma.lt
  refine ⟨⟨r, m, up.cells hb fun ht => h3 (hT _ ls ht), fun hn => ?_, hma.updM up fun ht => hr (hT _ lr ht), hg⟩, h2, fun hn => ?_, fun q hq => (hN q hq).2⟩
  · rcases (hN _ hn).1 with h5 | h5
    · exact hr h5
    · omega
  · rcases (hN _ hn).1 with h5 | h5
    · exact h3 h5
    · omega
theorem MemS.keep (hm : MemS s u N P h) {h' : Heap} (k : Keep h.size h h') : MemS s u N P h' :=
  hm.own (T := fun _ => False) k.m (fun _ _ h => h.elim) fun q hq => ⟨.inl hq, Nat.lt_of_lt_of_le (hm.lt q hq) k.size⟩
theorem MemS.ready (hm : MemS s u N P h) : HC Tryz.prog 111 #[.pointer (some ⟨s, 0, none⟩)] h fun v h' => h' = h ∧ v = .int .i64 0 := by
  obtain ⟨r, m, hb, _⟩ := hm.at_
  refine HC_of_vc (args := [.pointer (some ⟨s, 0, none⟩)]) (base := 19) (cuts := []) (bigs := []) kM Tryz.func111 ?_
  rw [vcStReady]
  refine ⟨_, reads_eql_nil uSt, br_intro (fun e => by cases e) fun _ => ⟨_, rfl, none, reads_load kDp (cell_cells hb rfl), _, reads_neq_nil uDp, ⟨s, 0, none⟩, fun _ => rfl, none, fun _ => reads_load kDp (cell_cells hb rfl), br_intro (fun e => by cases e) fun _ => ⟨rfl, rfl⟩⟩⟩
theorem mget_spec {r : Nat} {m : List (Str × Str)} (hma : MapAt Ms h r m) (k : Str) : HC Tryz.prog 257 #[.agg #[.map (some r)], .string k] h fun v h' => Keep h.size h h' ∧ v = .tuple #[.string ((mGet m k).getD ⟨#[]⟩), .bool (mGet m k).isSome, .int .i64 0] := by
  refine HC_of_vc (args := [.agg #[.map (some r)], .string k]) (base := 18) (cuts := []) (bigs := []) kM Tryz.func257 ?_
  rw [vcMGet]
  have kp := keep_push h (Obj.cells #[Value.map (some r)] 103 (0, 0))
  have rd := (reads_lookup (k := k) (z := .string ⟨#[]⟩) (hma.keep kp) (by kernel_rfl)).2
  refine ⟨_, reads_load kMs (cell_cells0 (push_at _ _) rfl), (mGet m k).getD ⟨#[]⟩, (mGet m k).isSome, ?_, kp, rfl⟩
  cases hgk : mGet m k with
  | none => rw [hgk] at rd; exact rd
  | some v => rw [hgk] at rd; exact rd
theorem MemS.get (hm : MemS s u N P h) (k : Str) : HC Tryz.prog 58 #[.pointer (some ⟨s, 0, none⟩), .string k] h fun v h' => MemS s u N P h' ∧ UpdM (fun q => ¬ N q) h h' ∧
    v = .tuple #[.string ((mGet P k).getD ⟨#[]⟩), .bool (mGet P k).isSome, .int .i64 0] := by
  have rdy := hm.ready
  obtain ⟨r, m, hb, hr, hma, hg⟩ := hm.at_
  refine HC_of_vc (args := [.pointer (some ⟨s, 0, none⟩), .string k]) (base := 22) (cuts := []) (bigs := []) kM Tryz.func58 ?_
  rw [vcStGet]
  refine rdy.mono ?_
  rintro v h1 ⟨rfl, rfl⟩
  refine ⟨_, rfl, br_intro (fun e => by simp at e) fun _ => ⟨_, rfl, _, reads_load kBe (cell_cells0 hb rfl), 257, _, meth_val (by kernel_rfl), (mget_spec hma k).mono ?_⟩⟩
  rintro v h2 ⟨k2, rfl⟩
  rw [hg k]
  exact ⟨_, _, _, rfl, hm.keep k2, k2.m, rfl⟩
theorem mlong_spec (w : Wr) (g : Heap) : HC Tryz.prog 260 #[wrVal w] g fun v g' => Keep g.size g g' ∧ v = .bool (decide (48 < w.key.size) || decide (160 < w.val.size)) := by
  refine HC_of_vc (args := [.agg #[.string w.key, .string w.val, .bool w.gone]]) (base := 13) (cuts := []) (bigs := []) kM Tryz.func260 ?_
  rw [vcMLong]
  have hb := push_at g (wrBox w)
  refine ⟨_, wr_k hb, _, fun _ => wr_v hb, keep_push _ _, ?_⟩
  congr 2
  · exact decide_eq_decide.2 (by constructor <;> intro h <;> omega)
  · exact decide_eq_decide.2 (by constructor <;> intro h <;> omega)
set_option maxHeartbeats 1000000 in
theorem mapply_spec {r n c : Nat} {A : Option Addr} {l : List Wr} {m : List (Str × Str)} (hma : MapAt Ms h r m) (hsP : SrtP P) (hg : ∀ k, mGet m k = mGet P k) (hs : Sl WrE h A n l) (hA : n ≠ 0 → ¬ blk A r) (hn : n ≤ 9223372036854775807) :
    HC Tryz.prog 256 #[.agg #[.map (some r)], .slice A n c] h fun v h' => Upd (fun q => q = r) h h' ∧ (long l = true → Keep h.size h h' ∧ v = .int .i64 3) ∧ (long l = false → v = .int .i64 0 ∧ ∃ m', MapAt Ms h' r m' ∧ ∀ k, mGet m' k = mGet (doneAll P l) k) := by
  refine HC_of_vc (args := [.agg #[.map (some r)], .slice A n c]) (base := 35) (cuts := []) (bigs := []) kM Tryz.func256 ?_
  rw [vcMApply]
  have hl := hs.1
  have kp := keep_push h (Obj.cells #[Value.map (some r)] 103 (0, 0))
  have bp := push_at h (Obj.cells #[Value.map (some r)] 103 (0, 0))
  have zp : (h.push (Obj.cells #[Value.map (some r)] 103 (0, 0))).size = h.size + 1 := by simp
  have lr := hma.lt
  have hlong : long l = (l.any (fun w => decide (48 < w.key.size) || decide (160 < w.val.size)) || decide (1024 < l.length)) := rfl
  refine br_intro (fun e => ?_) fun e => ?_
  · have hn2 : ¬ (n : Int) > 1024 := by
      by_cases h : (n : Int) > 1024
      · simp [h] at e
      · exact h
    have e2 : decide (1024 < l.length) = false := decide_eq_false (by omega)
    rw [e2, Bool.or_false] at hlong
    show HC Tryz.prog _ _ (h.push (Obj.cells #[Value.map (some r)] 103 (0, 0))) _
    generalize h.push (Obj.cells #[Value.map (some r)] 103 (0, 0)) = H at kp bp zp
    refine (contW_spec (p := fun w => decide (48 < w.key.size) || decide (160 < w.val.size)) (hs.keep kp) (by omega) (by kernel_rfl) mlong_spec).mono ?_
    rintro v h1 ⟨k1, rfl⟩
    have k01 := kp.trans (k1.mono kp.size)
    rw [← hlong]
    refine ⟨_, rfl, br_intro (fun e3 => ⟨(k01.upd _), fun _ => ⟨k01, rfl⟩, fun e4 => by rw [e4] at e3; cases e3⟩) fun e3 => ?_⟩
    refine ⟨fun n5 G => ∃ (j : Nat) (m' : List (Str × Str)), n5 = j ∧ j ≤ n ∧ Upd (fun q => q = r) h G ∧ H.size ≤ G.size ∧ G[h.size]? = some (Obj.cells #[Value.map (some r)] 103 (0, 0)) ∧ MapAt Ms G r m' ∧ ∀ k, mGet m' k = mGet (doneAll P (l.take j)) k, fun n5 _ => n - n5.toNat,
      ⟨0, m, rfl, Nat.zero_le _, k01.upd _, k1.size, k1.at bp (by omega), (hma.keep kp).keep k1, hg⟩, ?_⟩
    rintro n5 G ⟨j, m', rfl, hj, uG, zG, bG, maG, gG⟩
    refine br_intro (fun e4 => ?_) fun e4 => ?_
    · have e4 := of_decide_eq_true e4
      have hq : l[j]? = some (l[j]'(by omega)) := List.getElem?_eq_getElem (by omega)
      have htk : l.take (j + 1) = l.take j ++ [l[j]'(by omega)] := List.take_succ_eq_append_getElem (by omega)
      generalize l[j]'(by omega) = w at hq htk
      obtain ⟨p7, ea, rd⟩ := wr_at (hs.upd uG fun b hb e => hA (by omega) (e ▸ hb)) hq
      refine ⟨p7, ⟨ea, by omega, e4⟩, _, _, _, rd, svc_wr rfl ?_⟩
      have bx := push_at G (wrBox w)
      have kx := keep_push G (wrBox w)
      have zx : (G.push (wrBox w)).size = G.size + 1 := by simp
      generalize G.push (wrBox w) = G2 at bx kx zx
      have bG2 := kx.at bG (by omega)
      have sd := srt_doneAll (l.take j) hsP
      have gd := get_done1 sd w
      rw [← doneAll_snoc, ← htk] at gd
      rw [wrap_i64 (by omega) (by omega)]
      refine ⟨_, wr_g bx, br_intro (fun eg => ?_) fun eg => ?_⟩
      · refine ⟨_, reads_load kMs (cell_cells0 bG2 rfl), _, wr_k bx, svc_delete (M := Ms) (k := w.key) (maG.keep kx) fun h17 z17 u17 ma17 => ⟨rfl, ?_⟩⟩
        refine ⟨⟨j + 1, _, rfl, by omega, (uG.keep' kx).trans u17, by omega, u17.at bG2 (by omega), ma17, fun k => ?_⟩, by dsimp only; omega⟩
        have hnd : (mKeys m').Nodup := by obtain ⟨_, _, _, _, h, _⟩ := maG; exact h
        rw [mGet_del hnd, gd k, eg]
        by_cases ek : w.key = k
        · simp [ek]
        · simp [ek, Ne.symm ek, gG k]
      · refine ⟨_, reads_load kMs (cell_cells0 bG2 rfl), _, wr_k bx, _, wr_v bx, svc_mapUpdate (M := Ms) (k := w.key) (v := w.val) (maG.keep kx) fun h17 z17 u17 ma17 => ?_⟩
        refine ⟨⟨j + 1, _, rfl, by omega, (uG.keep' kx).trans u17, by omega, u17.at bG2 (by omega), ma17, fun k => ?_⟩, by dsimp only; omega⟩
        rw [mGet_put, gd k, eg]
        by_cases ek : w.key = k
        · simp [ek]
        · simp [ek, Ne.symm ek, gG k]
    · have e4 := of_decide_eq_false e4
      have hjn : j = n := by omega
      subst hjn
      rw [← hl, List.take_length] at gG
      exact ⟨uG, (fun e5 => by rw [e5] at e3; cases e3), fun _ => ⟨rfl, m', maG, gG⟩⟩
  · have hn2 : (n : Int) > 1024 := by
      by_cases h : (n : Int) > 1024
      · exact h
      · simp [h] at e
    have e2 : long l = true := by rw [hlong, decide_eq_true (by omega : 1024 < l.length)]; simp
    exact ⟨kp.upd _, fun _ => ⟨kp, rfl⟩, fun e3 => by rw [e2] at e3; cases e3⟩
theorem MemS.apply {M n c : Nat} {A : Option Addr} {l : List Wr} (hm : MemS s u N P h) (hs : Sl WrE h A n l) (hc : n ≤ c) (hn : n ≤ 9223372036854775807) (hA : n ≠ 0 → ∀ q, blk A q → N q) (hM : long l = false → u + n ≤ M) :
    HC Tryz.prog 60 #[.pointer (some ⟨s, 0, none⟩), .slice A n c] h fun v h' => UpdM (fun q => ¬ N q) h h' ∧ (long l = true → MemS s u N P h' ∧ v = .int .i64 3) ∧ (long l = false → MemS s (u + n) N (doneAll P l) h' ∧ v = .int .i64 0) := by
  have rdy := hm.ready
  obtain ⟨r, m, hb, hr, hma, hg⟩ := hm.at_
  have hne : s ≠ r := fun e => by
    obtain ⟨es, cl, hx, _⟩ := hma
    rw [e, hx] at hb; cases hb
  refine HC_of_vc (args := [.pointer (some ⟨s, 0, none⟩), .slice A n c]) (base := 17) (cuts := []) (bigs := []) kM Tryz.func60 ?_
  rw [vcStApply]
  refine rdy.mono ?_
  rintro v h1 ⟨rfl, rfl⟩
  refine ⟨_, rfl, br_intro (fun e => by simp at e) fun _ => ⟨_, rfl, _, reads_load kBe (cell_cells0 hb rfl), 256, _, meth_val (by kernel_rfl), (mapply_spec hma hm.srt hg hs (fun h0 hb => hr (hA h0 _ hb)) hn).mono ?_⟩⟩
  rintro v h2 ⟨u2, a1, a2⟩
  have um : UpdM (fun q => ¬ N q) h1 h2 := (u2.mono fun q e => by rw [e]; exact hr).m
  cases hlg : long l with
  | true =>
    obtain ⟨k2, rfl⟩ := a1 hlg
    exact ⟨_, rfl, um, fun _ => ⟨hm.keep k2, rfl⟩, fun e => by cases e⟩
  | false =>
    obtain ⟨rfl, m', ma', g'⟩ := a2 hlg
    exact ⟨_, rfl, um, (fun e => by cases e), fun _ => ⟨⟨⟨r, m', u2.at hb hne, hr, ma', g'⟩, srt_doneAll l hm.srt, hm.ns, fun q hq => Nat.lt_of_lt_of_le (hm.lt q hq) u2.size⟩, rfl⟩⟩
theorem mopen_spec (hN : ∀ q, N q → q < h.size) : HC Tryz.prog 25 #[.int .i64 1, .pointer none, .string ⟨#[]⟩] h fun v h' => Keep h.size h h' ∧ v = .tuple #[.pointer (some ⟨h.size + 1, 0, none⟩), .int .i64 0] ∧ MemS (h.size + 1) 0 N [] h' ∧ h'.size = h.size + 2 := by
  refine HC_of_vc (args := [.int .i64 1, .pointer none, .string ⟨#[]⟩]) (base := 57) (cuts := []) (bigs := []) kM Tryz.func25 ?_
  rw [vcStOpen1]
  have z1 : (h.push (Obj.map #[] 0)).size = h.size + 1 := by simp
  have k1 := keep_push h (Obj.map #[] 0)
  have ma := MapAt.new Ms h
  have k2 := keep_push (h.push (Obj.map #[] 0)) (memBox h.size)
  have b2 := push_at (h.push (Obj.map #[] 0)) (memBox h.size)
  rw [z1] at b2 ⊢
  refine ⟨k1.trans (k2.mono (by omega)), rfl, ⟨⟨h.size, [], b2, fun hn => by have := hN _ hn; omega, ma.keep k2, fun _ => rfl⟩, List.Pairwise.nil, fun hn => by have := hN _ hn; omega, fun q hq => by have := hN q hq; simp; omega⟩, by simp⟩
end
end Go.Proofs.YtkhinnchplahlaaGreatDoor
end

section
set_option maxRecDepth 100000
namespace Go.Proofs.YtkhinnchplahlaaGreatDoor
open Go Go.Vc Go.Proofs Go.Dk Go.Kv

theorem app_pr : App Tryz.prog 31 53 StrPairE.sz 32 (.agg #[.string ⟨#[]⟩, .string ⟨#[]⟩]) := ⟨by kernel_rfl, by kernel_rfl, by kernel_rfl, by kernel_rfl, rfl, by decide, by decide⟩
theorem bs_pr (p : Str × Str) : bsCells Tryz.prog 31 1 [(0, .agg #[.string p.1, .string p.2])] = some (53, StrPairE.enc p) :=
  bs_one (sz := 2) (z := .agg #[.string ⟨#[]⟩, .string ⟨#[]⟩]) (v := .agg #[.string p.1, .string p.2]) (by kernel_rfl) (by kernel_rfl) (by kernel_rfl) rfl (by decide) (by decide) rfl
theorem isAggPr : ∀ w, (isAgg 53).run Tryz.prog w = .ok true w := (agT_spec (P := Tryz.prog) (t := 53) (n := 2) (by kernel_rfl)).1
theorem sortPr_spec {h : Heap} {B n c : Nat} {a : Option Addr} {xs : List (Str × Str)} (ho : Vc.Own StrPairE 53 B h a n c xs) (hn : n < 4611686018427387904) :
    HC Tryz.prog 261 #[.slice a n c, .func (.func 262) #[] #[]] h fun v h' => v = .tuple #[] ∧ ∃ ys, Vc.Own StrPairE 53 B h' a n c ys ∧ ys.Perm xs ∧ ys.Pairwise (fun x y => lt y.1 x.1 = false) ∧ Upd (blk a) h h' := by
  have hcall := fun (b cap : Nat) (d : Array (Str × Str)) (w : World) hH hb hs =>
    AnyQ.slices_SortFunc Tryz.sortPr 2 isAggPr Tryz.sizeOf53 StrPairE.enc (fun _ => rfl) (fun x v hv => by simp [StrPairE] at hv; rcases hv with rfl | rfl <;> rfl) (fun x y => cmpS x.1 y.1) (swoKey fun x : Str × Str => x.1) 262 #[] b 0 cap d w (enters_of Tryz.func262 (by kernel_rfl) rfl) (fun _ _ _ _ x y => Tryz.lessPr x y _) hH hb hs
  have hnone := fun (cap : Nat) (w : World) => AnyF.slices_SortFunc_none Tryz.sortPr none cap (.func (.func 262) #[] #[]) w
  refine (sort_hc (f := 261) (g := 262) ho hn hcall hnone).mono ?_
  rintro v h' ⟨rfl, ys, oy, hp, hs, u⟩
  refine ⟨rfl, ys, oy, hp, hs.imp fun {x y} h => ?_, u⟩
  have : ltOf (fun x y : Str × Str => cmpS x.1 y.1) y x = lt y.1 x.1 := cmpS_lt _ _
  rw [← this]; exact h
theorem sorted_eq {ys xs : List (Str × Str)} (hp : ys.Perm xs) (hs : ys.Pairwise fun x y => lt y.1 x.1 = false) (hx : SrtP xs) : ys = xs := by
  have hn : (mKeys xs).Nodup := srt_nodup hx
  have hny : (mKeys ys).Nodup := (hp.map fun p : Str × Str => p.1).nodup_iff.2 hn
  have hsy : SrtP ys := by
    have h1 : ys.Pairwise fun x y => x.1 ≠ y.1 := List.pairwise_map.1 hny
    refine List.pairwise_map.2 ((hs.and h1).imp fun {x y} h => ?_)
    cases h2 : lt x.1 y.1 with
    | true => rfl
    | false => exact absurd (lt_total h2 h.1) h.2
  refine ps_ext hsy hx fun q => ?_
  cases h1 : mGet ys q with
  | none =>
    cases h2 : mGet xs q with
    | none => rfl
    | some v => rw [(mGet_mem hny q v).1 (hp.mem_iff.2 ((mGet_mem hn q v).2 h2))] at h1; cases h1
  | some v => exact ((mGet_mem hn q v).1 (hp.mem_iff.1 ((mGet_mem hny q v).2 h1))).symm
theorem perm_pick {α : Type} : ∀ {l : List α} {j : Nat} {p : α}, l[j]? = some p → (p :: l.eraseIdx j).Perm l
  | [], _, _, h => by simp at h
  | a :: l, 0, p, h => by
    simp at h; subst h; exact List.Perm.refl _
  | a :: l, j + 1, p, h => by
    rw [List.getElem?_cons_succ] at h
    rw [List.eraseIdx_cons_succ]
    exact (List.Perm.swap a p _).trans ((perm_pick h).cons a)
section
variable {s u : Nat} {N : Nat → Prop} {P : Ps Str} {h : Heap}
set_option maxHeartbeats 1000000 in
theorem mscan_spec {r : Nat} {m : List (Str × Str)} (hma : MapAt Ms h r m) (hsP : SrtP P) (hg : ∀ k, mGet m k = mGet P k) (hP : P.length ≤ 1000000) (k : Str) (n : Int) :
    HC Tryz.prog 258 #[.agg #[.map (some r)], .string k, .int .i64 n] h fun v h' => Keep h.size h h' ∧ ∃ a c, v = .tuple #[.slice a (scan P k n).length c, .int .i64 0] ∧ Sl StrPairE h' a (scan P k n).length (scan P k n) ∧ (∀ q, blk a q → h.size ≤ q ∧ q < h'.size) := by
  have hnm : (mKeys m).Nodup := by obtain ⟨_, _, _, _, h, _⟩ := hma; exact h
  have hperm : m.Perm P := perm_of_get hnm (srt_nodup hsP) hg
  have hml : m.length = P.length := hperm.length_eq
  refine HC_of_vc (args := [.agg #[.map (some r)], .string k, .int .i64 n]) (base := 37) (cuts := []) (bigs := []) kM Tryz.func258 ?_
  rw [vcMScan]
  have kp := keep_push h (Obj.cells #[Value.map (some r)] 103 (0, 0))
  have bp := push_at h (Obj.cells #[Value.map (some r)] 103 (0, 0))
  have zp : (h.push (Obj.cells #[Value.map (some r)] 103 (0, 0))).size = h.size + 1 := by simp
  refine ⟨_, reads_load kMs (cell_cells0 bp rfl), ?_⟩
  generalize h.push (Obj.cells #[Value.map (some r)] 103 (0, 0)) = H at kp bp zp
  refine svc_range (hma.keep kp) fun h2 k2 z2 it2 => ⟨_, rfl, ?_⟩
  refine ⟨fun a n' c' G => ∃ (left out : List (Str × Str)) (cur : Option (Str × Str)), Keep h.size h G ∧ h2.size ≤ G.size ∧ IterAt Ms G H.size r m left cur ∧ Vc.Own StrPairE 53 h2.size G a n' c' out ∧ (out ++ left.filter fun p => !lt p.1 k).Perm (m.filter fun p => !lt p.1 k),
    fun _ _ _ G => leftN G H.size, ⟨m, [], none, kp.trans (k2.mono kp.size), Nat.le_refl _, it2, Own.nil _ _ _, by simp⟩, ?_⟩
  rintro a6 k7 k8 G ⟨left, out, cur, kG, zG, itG, oG, hpm⟩
  have hlt := itG.lt
  have hlo : out.length ≤ m.length := by
    have := hpm.length_eq
    have h2 := List.length_filter_le (fun p : Str × Str => !lt p.1 k) m
    rw [List.length_append] at this; omega
  have hk7 := oG.1
  have hzH : H.size ≤ h2.size := by omega
  refine svc_next itG (fun hl => .inl ⟨rfl, ?_⟩) fun j p h11 hp u11 z11 it11 => .inr ⟨_, _, rfl, ?_⟩
  · subst hl
    simp only [List.filter_nil, List.append_nil] at hpm
    refine (sortPr_spec oG (by omega)).mono ?_
    rintro v h13 ⟨rfl, ys, oy, hpy, hsy, u13⟩
    have hey : ys = P.filter fun p => !lt p.1 k := by
      refine sorted_eq ((hpy.trans hpm).trans (hperm.filter _)) hsy ?_
      exact List.Pairwise.sublist (List.filter_sublist.map _) hsP
    have hyl := oy.1
    have hc8 := oy.2.1
    refine ⟨rfl, _, reads_min, _, reads_max, ?_⟩
    have hlen : (scan P k n).length = min n.toNat k7 := by unfold scan; rw [List.length_take, ← hey, hyl]
    have hv : (if (0 : Int) > (if (k7 : Int) < n then (k7 : Int) else n) then (0 : Int) else (if (k7 : Int) < n then (k7 : Int) else n)) = ((scan P k n).length : Nat) := by
      rw [hlen]
      split <;> split at * <;> omega
    rw [hv]
    have k13 : Keep h.size h h13 := kG.trans (u13.keep kG.size fun q hq => by have := (oG.block q hq).1; have := kp.size; omega)
    refine ⟨⟨by omega, by omega, by omega⟩, k13, a6, k8, by rw [Int.toNat_natCast], ?_, fun q hq => ?_⟩
    · refine ⟨rfl, ?_⟩
      rcases oy.sl.2 with h0 | ⟨p, ea, hp⟩
      · left; unfold scan; rw [← hey, h0]; simp
      · refine .inr ⟨p, ea, fun i x hx => hp i x ?_⟩
        unfold scan at hx
        rw [← hey, List.getElem?_take] at hx
        split at hx
        · exact hx
        · cases hx
    · have := oy.block q hq; have := kp.size; omega
  · refine ⟨p.1, p.2, reads_entry it11, ?_⟩
    have hpk := perm_pick hp
    have o11 := oG.upd u11 fun q hq e => by have := (oG.block q hq).1; omega
    have k11 : Keep h.size h h11 := kG.trans (u11.keep kG.size fun q hq => by have := kp.size; omega)
    have hmeas : leftN h11 H.size < leftN G H.size := by
      rw [it11.leftN, itG.leftN]
      have := hpk.length_eq
      simp only [List.length_cons] at this; omega
    have hpf := (hpk.filter fun p => !lt p.1 k)
    rw [List.filter_cons] at hpf
    refine br_intro (fun e => ?_) fun e => ?_
    · have e : (!lt p.1 k) = true := e
      rw [if_pos e] at hpf
      refine svc_append1 (x := p) app_pr o11 (by omega) (bs_pr p) (by omega) fun a' c' h' o' u' b' => ?_
      have hh : ∀ q, blk a6 q → h2.size ≤ q := fun q hq => (o11.block q hq).1
      have it' := it11.upd u' (fun hq => by have := hh _ hq; omega) fun hq => by
        have := hh _ hq
        have := hma.lt
        have := kp.size; omega
      refine ⟨⟨left.eraseIdx j, out ++ [p], some p, k11.trans (u'.keep k11.size fun q hq => by have := hh q hq; have := kp.size; omega), by have := u'.size; omega, it', o', ?_⟩, ?_⟩
      · refine List.Perm.trans ?_ hpm
        rw [List.append_assoc]
        exact List.Perm.append_left out hpf
      · dsimp only
        rw [it'.leftN, itG.leftN]
        have := hpk.length_eq
        simp only [List.length_cons] at this; omega
    · have e : (!lt p.1 k) = false := e
      rw [if_neg (by rw [e]; decide)] at hpf
      exact ⟨⟨left.eraseIdx j, out, some p, k11, by omega, it11, o11, (List.Perm.append_left out hpf).trans hpm⟩, hmeas⟩
theorem MemS.scan (hm : MemS s u N P h) (hP : P.length ≤ 1000000) (k : Str) (n : Int) : HC Tryz.prog 61 #[.pointer (some ⟨s, 0, none⟩), .string k, .int .i64 n] h fun v h' => MemS s u N P h' ∧ UpdM (fun q => ¬ N q) h h' ∧
    ∃ a c, v = .tuple #[.slice a (Kv.scan P k n).length c, .int .i64 0] ∧ Sl StrPairE h' a (Kv.scan P k n).length (Kv.scan P k n) ∧ (∀ q, blk a q → h.size ≤ q ∧ q < h'.size) := by
  have rdy := hm.ready
  obtain ⟨r, m, hb, hr, hma, hg⟩ := hm.at_
  refine HC_of_vc (args := [.pointer (some ⟨s, 0, none⟩), .string k, .int .i64 n]) (base := 23) (cuts := []) (bigs := []) kM Tryz.func61 ?_
  rw [vcStScan]
  refine rdy.mono ?_
  rintro v h1 ⟨rfl, rfl⟩
  refine ⟨_, rfl, br_intro (fun e => by simp at e) fun _ => ⟨_, rfl, _, reads_load kBe (cell_cells0 hb rfl), 258, _, meth_val (by kernel_rfl), (mscan_spec hma hm.srt hg hP k n).mono ?_⟩⟩
  rintro v h2 ⟨k2, a, c, rfl, sl, hbk⟩
  exact ⟨_, _, _, _, rfl, hm.keep k2, k2.m, a, c, rfl, sl, hbk⟩
theorem memSto (M s : Nat) : Sto M (MemS s) s := ⟨fun h => h.srt, fun h => h.lt, fun h u hT hN => h.own u hT hN, fun h k => h.get k, fun h hs hc hn hA hM => h.apply hs hc hn hA hM, fun h hP k n => h.scan hP k n⟩
end
end Go.Proofs.YtkhinnchplahlaaGreatDoor
end

section
set_option maxRecDepth 100000
namespace Go.Proofs.YtkhinnchplahlaaGreatDoor
open Go Go.Vc Go.Proofs Go.Dk Go.Kv Go.Ls

theorem cmpS_zero (a b : Str) : (cmpS a b == 0) = decide (a = b) := by
  unfold cmpS
  cases h1 : Op.bytesLess a.toList b.toList with
  | true =>
    have : a ≠ b := fun e => by
      have h2 : lt a b = true := h1
      rw [e, lt_irrefl] at h2; cases h2
    rw [if_pos rfl, decide_eq_false this]; rfl
  | false =>
    cases h2 : Op.bytesLess b.toList a.toList with
    | true =>
      have : a ≠ b := fun e => by
        have h3 : lt b a = true := h2
        rw [e, lt_irrefl] at h3; cases h3
      rw [if_neg (by decide), if_pos rfl, decide_eq_false this]; rfl
    | false =>
      have : a = b := lt_total (show lt a b = false from h1) (show lt b a = false from h2)
      rw [if_neg (by decide), if_neg (by decide), decide_eq_true this]; rfl
theorem mid_val {i j : Nat} (h : i + j < 4611686018427387904) : IntKind.i64.wrap ((IntKind.u64.wrap (IntKind.i64.wrap ((i : Int) + (j : Int)))).fdiv ((2 : Int) ^ (1 : Nat))) = (((i + j) / 2 : Nat) : Int) := by
  have e1 : IntKind.i64.wrap ((i : Int) + (j : Int)) = ((i + j : Nat) : Int) := by rw [wrap_i64 (by omega) (by omega)]; rfl
  have e2 : IntKind.u64.wrap ((i + j : Nat) : Int) = ((i + j : Nat) : Int) := by
    simp only [IntKind.wrap, IntKind.signed, IntKind.bits]; simp; omega
  have e3 : ((i + j : Nat) : Int).fdiv ((2 : Int) ^ (1 : Nat)) = (((i + j) / 2 : Nat) : Int) := by
    have h0 : ((2 : Int) ^ (1 : Nat)) = ((2 : Nat) : Int) := by decide
    rw [h0, ← Int.ofNat_fdiv]
  rw [e1, e2, e3, wrap_i64 (by omega) (by omega)]
set_option maxHeartbeats 1000000 in
/-- a key looked for among sorted writes. -/
theorem binW_spec {h : Heap} {A : Option Addr} {n c : Nat} {l : List Wr} {k : Str} (hs : Sl WrE h A n l) (hsrt : Srt (l.map (·.key))) (hn : n ≤ 1000000) :
    HC Tryz.prog 101 #[.slice A n c, .string k, .func (.func 102) #[] #[]] h fun v h' => Keep h.size h h' ∧ ∃ (i : Nat) (b : Bool), v = .tuple #[.int .i64 i, .bool b] ∧
      (b = true → ∃ w, l[i]? = some w ∧ w.key = k) ∧ (b = false → ∀ w ∈ l, w.key ≠ k) := by
  have hl := hs.1
  have hlt : ∀ (a b : Nat) (x y : Wr), a < b → l[a]? = some x → l[b]? = some y → lt x.key y.key = true := fun a b x y hab hx hy => by
    obtain ⟨h1, e1⟩ := List.getElem?_eq_some_iff.1 hx
    obtain ⟨h2, e2⟩ := List.getElem?_eq_some_iff.1 hy
    have := (List.pairwise_iff_getElem.1 (List.pairwise_map.1 hsrt)) a b h1 h2 hab
    rw [e1, e2] at this; exact this
  have hfn : fnOk Tryz.prog 102 = true := by kernel_rfl
  refine HC_of_vc (args := [.slice A n c, .string k, .func (.func 102) #[] #[]]) (base := 49) (cuts := []) (bigs := []) kM Tryz.func101 ?_
  rw [vcBinW]
  refine ⟨fun n2 n3 H => ∃ i j : Nat, n2 = i ∧ n3 = j ∧ i ≤ j ∧ j ≤ n ∧ Keep h.size h H ∧ (∀ a x, a < i → l[a]? = some x → lt x.key k = true) ∧ (∀ a x, j ≤ a → l[a]? = some x → lt x.key k = false),
    fun n2 n3 _ => n3.toNat - n2.toNat, ⟨0, n, rfl, rfl, Nat.zero_le _, Nat.le_refl _, Keep.refl _ _, fun a x ha => by omega, fun a x ha hx => by have := (List.getElem?_eq_some_iff.1 hx).1; omega⟩, ?_⟩
  rintro n2 n3 H ⟨i, j, rfl, rfl, hij, hj, kH, hlo, hhi⟩
  have hsH := hs.keep kH
  refine br_intro (fun e => ?_) fun e => ?_
  · have e := of_decide_eq_true e
    rw [mid_val (by omega)]
    obtain ⟨m, hm⟩ : ∃ m, m = (i + j) / 2 := ⟨_, rfl⟩
    rw [← hm]
    have hmj : m < j := by omega
    have him : i ≤ m := by omega
    have hq : l[m]? = some (l[m]'(by omega)) := List.getElem?_eq_getElem (by omega)
    generalize l[m]'(by omega) = w at hq
    obtain ⟨p5, ea, rd⟩ := wr_at hsH hq
    refine ⟨by decide, p5, ⟨ea, by omega, by omega⟩, _, _, _, rd, br_intro (fun _ => ?_) fun e => by rw [hfn] at e; cases e⟩
    refine (get1_spec w k H).mono ?_
    rintro v h10 ⟨k10, rfl⟩
    have kk := kH.trans (k10.mono kH.size)
    refine ⟨_, rfl, br_intro (fun e2 => ?_) fun e2 => ?_⟩
    · rw [cmpS_lt] at e2
      rw [wrap_i64 (by omega) (by omega)]
      refine ⟨⟨m + 1, j, by omega, rfl, by omega, hj, kk, fun a x ha hx => ?_, hhi⟩, by dsimp only; omega⟩
      by_cases ham : a = m
      · subst ham; rw [hq] at hx; cases hx; exact e2
      · exact lt_trans (hlt a m x w (by omega) hx hq) e2
    · rw [cmpS_lt] at e2
      refine ⟨⟨i, m, rfl, rfl, him, by omega, kk, hlo, fun a x ha hx => ?_⟩, by dsimp only; omega⟩
      by_cases ham : a = m
      · subst ham; rw [hq] at hx; cases hx; exact e2
      · cases h3 : lt x.key k with
        | false => rfl
        | true => rw [lt_trans (hlt m a w x (by omega) hq hx) h3] at e2; cases e2
  · have e := of_decide_eq_false e
    have hij2 : i = j := by omega
    subst hij2
    have hnone : (∀ x, l[i]? = some x → x.key ≠ k) → ∀ w ∈ l, w.key ≠ k := fun hne w hw => by
      obtain ⟨a, ha, rfl⟩ := List.getElem_of_mem hw
      have hx : l[a]? = some l[a] := List.getElem?_eq_getElem ha
      rcases Nat.lt_trichotomy a i with h1 | h1 | h1
      · have := hlo a _ h1 hx
        exact fun e => by rw [e, lt_irrefl] at this; cases this
      · subst h1; exact hne _ hx
      · intro e
        have hq : l[i]? = some (l[i]'(by omega)) := List.getElem?_eq_getElem (by omega)
        have h2 := hlt i a _ _ h1 hq hx
        have h3 := hhi i _ (Nat.le_refl _) hq
        rw [e] at h2; rw [h2] at h3; cases h3
    by_cases hin : i < n
    · have hq : l[i]? = some (l[i]'(by omega)) := List.getElem?_eq_getElem (by omega)
      generalize l[i]'(by omega) = w at hq
      obtain ⟨p5, ea, rd⟩ := wr_at hsH hq
      refine ⟨p5, fun _ => ⟨ea, by omega, by omega⟩, _, _, _, fun _ => rd, br_intro (fun _ => br_intro (fun _ => ?_) fun e => by rw [hfn] at e; cases e) fun e => by rw [decide_eq_true (by omega)] at e; cases e⟩
      refine (get1_spec w k H).mono ?_
      rintro v h10 ⟨k10, rfl⟩
      refine ⟨_, rfl, kH.trans (k10.mono kH.size), i, _, rfl, fun hb => ⟨w, hq, ?_⟩, fun hb => hnone fun x hx => ?_⟩
      · rw [cmpS_zero] at hb; exact of_decide_eq_true hb
      · rw [cmpS_zero] at hb
        rw [hq] at hx; cases hx; exact of_decide_eq_false hb
    · have hd : decide ((i : Int) < (n : Int)) = false := decide_eq_false (by omega)
      refine ⟨⟨0, 0, none⟩, (fun e => by rw [hd] at e; cases e), ⟨#[]⟩, ⟨#[]⟩, false, (fun e => by rw [hd] at e; cases e), br_intro (fun e => by rw [hd] at e; cases e) fun _ => ⟨kH, i, false, rfl, (fun e => by cases e), fun _ => hnone fun x hx => ?_⟩⟩
      have := (List.getElem?_eq_some_iff.1 hx).1
      omega
theorem idxW_spec {h : Heap} {A : Option Addr} {n c f : Nat} {l : List Wr} {p : Wr → Bool} (hs : Sl WrE h A n l) (hn : n ≤ 1000000) (hf0 : fnOk Tryz.prog f = true)
    (hf : ∀ (w : Wr) (g : Heap), HC Tryz.prog f #[wrVal w] g fun v g' => Keep g.size g g' ∧ v = .bool (p w)) :
    HC Tryz.prog 90 #[.slice A n c, .func (.func f) #[] #[]] h fun v h' => Keep h.size h h' ∧ v = .int .i64 (match l.findIdx? p with | some k => (k : Int) | none => -1) := by
  have hl := hs.1
  refine HC_of_vc (args := [.slice A n c, .func (.func f) #[] #[]]) (base := 19) (cuts := []) (bigs := []) kM Tryz.func90 ?_
  rw [vcIdxW]
  refine ⟨fun _ n3 H => ∃ j : Nat, n3 = j ∧ j ≤ n ∧ Keep h.size h H ∧ ∀ i w, i < j → l[i]? = some w → p w = false, fun _ n3 _ => n - n3.toNat, ⟨0, rfl, Nat.zero_le _, Keep.refl _ _, fun i w hi => by omega⟩, ?_⟩
  rintro n2 n3 H ⟨j, rfl, hj, kH, hno⟩
  refine br_intro (fun e => ?_) fun e => ?_
  · have e := of_decide_eq_true e
    have hq : l[j]? = some (l[j]'(by omega)) := List.getElem?_eq_getElem (by omega)
    generalize l[j]'(by omega) = w at hq
    obtain ⟨p5, ea, rd⟩ := wr_at (hs.keep kH) hq
    refine ⟨p5, ⟨ea, by omega, e⟩, _, _, _, rd, br_intro (fun _ => ?_) fun e => by rw [hf0] at e; cases e⟩
    refine (hf w H).mono ?_
    rintro v h10 ⟨k10, rfl⟩
    have kk := kH.trans (k10.mono kH.size)
    refine ⟨_, rfl, br_intro (fun e2 => ⟨kk, ?_⟩) fun e2 => ?_⟩
    · have : l.findIdx? p = some j := List.findIdx?_eq_some_iff_getElem.2 ⟨by omega, by rw [List.getElem?_eq_getElem (by omega)] at hq; cases hq; exact e2, fun i hi => by
        have := hno i _ hi (List.getElem?_eq_getElem (by omega)); simp [this]⟩
      rw [this]
    · rw [wrap_i64 (by omega) (by omega)]
      refine ⟨⟨j + 1, rfl, by omega, kk, fun i w' hi hw' => ?_⟩, by dsimp only; omega⟩
      by_cases hij : i = j
      · subst hij; rw [hq] at hw'; cases hw'; exact e2
      · exact hno i w' (by omega) hw'
  · have e := of_decide_eq_false e
    have : l.findIdx? p = none := List.findIdx?_eq_none_iff.2 fun w hw => by
      obtain ⟨i, hi, rfl⟩ := List.getElem_of_mem hw
      exact hno i _ (by omega) (List.getElem?_eq_getElem hi)
    rw [this]; exact ⟨kH, rfl⟩
theorem filterW_take {p : Wr → Bool} {ws : List Wr} {j : Nat} {w : Wr} (hw : ws[j]? = some w) : (ws.take (j + 1)).filter (fun w => !p w) = (ws.take j).filter (fun w => !p w) ++ if p w then [] else [w] := by
  have hj := (List.getElem?_eq_some_iff.1 hw).1
  have he := (List.getElem?_eq_some_iff.1 hw).2
  rw [List.take_succ_eq_append_getElem hj, he, List.filter_append]
  congr 1
  cases h : p w <;> simp [h]
theorem WrE_one (w : Wr) : oneCells (WrE.enc w) := fun v hv => WrE.one w v hv
set_option maxHeartbeats 1000000 in
/-- some writes are taken out of a row of the call's own. -/
theorem delW_spec {f : Nat} {p : Wr → Bool} {A : Option Addr} (hf0 : fnOk Tryz.prog f = true) (hf : ∀ (w : Wr) (g : Heap), HC Tryz.prog f #[wrVal w] g fun v g' => Keep g.size g g' ∧ v = .bool (p w))
    {h : Heap} {B n c : Nat} {ws : List Wr} (ho : Vc.Own WrE 42 B h A n c ws) (hn : n ≤ 1000000) :
    HC Tryz.prog 104 #[.slice A n c, .func (.func f) #[] #[]] h
      fun v h' => Vc.Own WrE 42 B h' A (ws.filter fun w => !p w).length c (ws.filter fun w => !p w) ∧ Upd (blk A) h h' ∧ v = .slice A (ws.filter fun w => !p w).length c := by
  have hl := ho.1
  have hnc := ho.2.1
  refine HC_of_vc (args := [.slice A n c, .func (.func f) #[] #[]]) (base := 42) (cuts := []) (bigs := []) kM Tryz.func104 ?_
  rw [vcDelW]
  refine (idxW_spec ho.sl hn hf0 hf).mono ?_
  rintro v h1 ⟨k1, rfl⟩
  have ho1 := ho.upd (k1.upd fun _ => False) fun _ _ h => h
  cases hfi : ws.findIdx? p with
  | none =>
    have hall := List.findIdx?_eq_none_iff.1 hfi
    have hfil : (ws.filter fun w => !p w) = ws := List.filter_eq_self.2 fun w hw => by simp [hall w hw]
    refine ⟨_, rfl, br_intro (fun _ => ?_) (fun e => by simp at e)⟩
    rw [hfil, hl]
    exact ⟨ho1, k1.upd _, rfl⟩
  | some k =>
    obtain ⟨hkl, hpk, hbef⟩ := List.findIdx?_eq_some_iff_getElem.1 hfi
    have hb1 : (((k : Nat) : Int) == -1) = false := by rw [beq_eq_false_iff_ne]; omega
    refine ⟨_, rfl, br_intro (fun e => by rw [hb1] at e; cases e) (fun _ => ?_)⟩
    obtain ⟨b, cells, rfl, hB, hb, hcs, rest, hrest⟩ : ∃ b cells, A = some ⟨b, 0, none⟩ ∧ B ≤ b ∧ h1[b]? = some (.cells cells 42 (0, 0)) ∧ cells.size = c * WrE.sz ∧ ∃ rest, cells.toList = ws.flatMap WrE.enc ++ rest := by
      rcases ho1.2.2 with ⟨_, e⟩ | h0
      · omega
      · exact h0
    have eb : ∀ q, q = b → blk (some (⟨b, 0, none⟩ : Addr)) q := fun q e => ⟨_, rfl, e.symm⟩
    refine ⟨fun n5 n6 h7 => ∃ (i j : Nat) (R : List Wr) (cells : Array Value) (rest : List Value), n5 = i ∧ n6 = j ∧ j ≤ n ∧ i < j ∧ R.length = n ∧ R.take i = (ws.take j).filter (fun w => !p w) ∧ R.drop j = ws.drop j ∧
        h7[b]? = some (.cells cells 42 (0, 0)) ∧ cells.size = c * WrE.sz ∧ cells.toList = R.flatMap WrE.enc ++ rest ∧ Upd (blk (some ⟨b, 0, none⟩)) h h7,
      fun _ n6 _ => n - n6.toNat, ⟨k, k + 1, ws, cells, rest, rfl, by show IntKind.i64.wrap ((k : Int) + 1) = _; rw [wrap_i64 (by omega) (by omega)]; rfl, by omega, by omega, hl, ?_, rfl, hb, hcs, hrest, k1.upd _⟩, ?_⟩
    · rw [filterW_take (List.getElem?_eq_getElem hkl), hpk]
      simp only [if_true, List.append_nil]
      refine (List.filter_eq_self.2 fun w hw => ?_).symm
      obtain ⟨j, hj, rfl⟩ := List.getElem_of_mem hw
      simp only [List.length_take] at hj
      have := hbef j (by omega)
      simpa using this
    rintro _ _ h7 ⟨i, j, R, cells, rest, rfl, rfl, hjn, hij, hRl, hRt, hRd, hb, hcs, hrest, u7⟩
    refine br_intro (fun hlt => ?_) (fun hge => ?_)
    · have hlt : j < n := by simpa using hlt
      have hw : ws[j]? = some (ws[j]'(by omega)) := List.getElem?_eq_getElem (by omega)
      generalize ws[j]'(by omega) = w at hw
      have hRw : R[j]? = some w := by
        have := congrArg (fun l => l[0]?) hRd
        simpa [hw] using this
      have hsl : Sl WrE h7 (some ⟨b, 0, none⟩) n R := ⟨hRl, .inr ⟨_, rfl, fun i x hxx j v hv => by
        rw [Addr.add_row, Nat.zero_add, cell_at hb, ← Array.getElem?_toList, hrest]
        have := flat_get (E := WrE) R hxx hv
        rw [List.getElem?_append_left (List.getElem?_eq_some_iff.1 this).1]; exact this⟩⟩
      obtain ⟨q, hA, hq⟩ := wr_at hsl hRw
      cases hA
      refine ⟨⟨b, 0, none⟩, ⟨rfl, by omega, by omega⟩, _, _, _, hq, svc_wr rfl ?_⟩
      have hat := push_at h7 (wrBox w)
      have kp := keep_push h7 (wrBox w)
      have rdw : ∀ {G : Heap}, G[h7.size]? = some (wrBox w) → Reads Tryz.prog (Instr.loadAt 42 (.pointer (some ⟨h7.size, 0, none⟩))) G (.agg (Array.mk [.string w.key, .string w.val, .bool w.gone])) := fun hG =>
        reads_load_agg (cs := [.string w.key, .string w.val, .bool w.gone]) agWr rfl (cells_all hG)
      refine ⟨_, _, _, rdw hat, br_intro (fun _ => (hf w _).mono ?_) (fun e => by rw [hf0] at e; cases e)⟩
      rintro v h15 ⟨k15, rfl⟩
      have k715 : Keep h7.size h7 h15 := kp.trans (k15.mono kp.size)
      have hb15 := k715.at hb (at_lt hb)
      have u15 := u7.keep' k715
      have hat15 := k15.at hat (by simp)
      have hwj : IntKind.i64.wrap ((j : Int) + 1) = ((j + 1 : Nat) : Int) := by rw [wrap_i64 (by omega) (by omega)]; rfl
      have hwi : IntKind.i64.wrap ((i : Int) + 1) = ((i + 1 : Nat) : Int) := by rw [wrap_i64 (by omega) (by omega)]; rfl
      have hdrop : R.drop (j + 1) = ws.drop (j + 1) := by
        have := congrArg (List.drop 1) hRd
        simpa [List.drop_drop] using this
      refine ⟨_, rfl, br_intro (fun e => ?_) (fun e => ?_)⟩
      · have e : p w = false := by simpa using e
        refine ⟨_, _, _, rdw hat15, ⟨b, 0, none⟩, ⟨rfl, by omega, by omega⟩, ?_⟩
        rw [Addr.add_row, Nat.zero_add, Int.toNat_natCast]
        refine svc_store_at (v := .agg (WrE.enc w).toArray) ?_ hb15 ?_ (WrE_one w) fun h20 s20 b20 u20 => ?_
        · exact szWr
        · show i * 3 + 3 ≤ _
          rw [hcs]
          show i * 3 + 3 ≤ c * 3
          omega
        · have hset : putL cells.toList (i * 3) (WrE.enc w) = (R.set i w).flatMap WrE.enc ++ rest := by
            rw [hrest]; exact putL_flat (E := WrE) R rest i w (by omega)
          have b20' : h20[b]? = some (.cells ((R.set i w).flatMap WrE.enc ++ rest).toArray 42 (0, 0)) := by rw [← hset]; exact b20
          rw [hwi, hwj]
          refine ⟨⟨i + 1, j + 1, R.set i w, _, rest, rfl, rfl, hlt, by omega, by simpa using hRl, ?_, ?_, b20', ?_, by simp, u15.trans (u20.mono eb)⟩, by dsimp only; omega⟩
          · rw [filterW_take hw, e, ← hRt]
            simp only [Bool.false_eq_true, if_false]
            rw [List.take_succ_eq_append_getElem (by simp; omega), List.getElem_set_self, List.take_set_of_le (Nat.le_refl _)]
          · rw [List.drop_set_of_lt (by omega), hdrop]
          · have := congrArg List.length hset
            rw [putL_len, Array.length_toList] at this
            simp only [List.size_toArray]; omega
      · have e : p w = true := by simpa using e
        rw [hwj]
        refine ⟨⟨i, j + 1, R, cells, rest, rfl, rfl, hlt, by omega, hRl, ?_, hdrop, hb15, hcs, hrest, u15⟩, by dsimp only; omega⟩
        rw [filterW_take hw, e, ← hRt]; simp
    · have hjn' : j = n := by have : ¬ (j : Int) < n := by simpa using hge
                              omega
      subst hjn'
      have ht : ws.take j = ws := List.take_of_length_le (by omega)
      rw [ht] at hRt
      have hm : (ws.filter fun w => !p w).length = i := by rw [← hRt, List.length_take]; omega
      have esub : subA (some (⟨b, 0, none⟩ : Addr)) (i : Int).toNat c 3 = some ⟨b, i * 3, none⟩ := by
        rw [Int.toNat_natCast, subA, if_neg (by omega)]; simp [Addr.add_row]
      refine ⟨⟨by omega, by omega, by omega, by omega⟩, ?_⟩
      rw [esub]
      refine svc_clear_tail app_wr.und app_wr.zero app_wr.zlen (WrE_one ⟨⟨#[]⟩, ⟨#[]⟩, false⟩) hb (by rw [hcs]; show i * 3 + (j - (i : Int).toNat) * 3 ≤ c * 3; rw [Int.toNat_natCast]; omega) fun h22 cells' s22 b22 z22 t22 u22 => ?_
      refine ⟨rfl, ⟨by omega, by omega, by omega⟩, ?_⟩
      rw [Int.toNat_natCast, hm]
      refine ⟨⟨hm, by omega, .inr ⟨b, cells', rfl, hB, b22, by rw [z22, hcs], cells'.toList.drop (i * 3), ?_⟩⟩, u7.trans (u22.mono eb), rfl⟩
      have h1 : cells'.toList = cells'.toList.take (i * 3) ++ cells'.toList.drop (i * 3) := (List.take_append_drop _ _).symm
      have h2 : (R.flatMap WrE.enc ++ rest).take (i * 3) = (R.take i).flatMap WrE.enc := by
        have hl1 : ((R.take i).flatMap WrE.enc).length = i * 3 := by rw [flat_len, List.length_take]; show min i R.length * 3 = _; congr 1; omega
        have : R.flatMap WrE.enc = (R.take i).flatMap WrE.enc ++ (R.drop i).flatMap WrE.enc := by rw [← List.flatMap_append, List.take_append_drop]
        rw [this, List.append_assoc, ← hl1, List.take_left]
      rw [t22, hrest, h2, hRt] at h1
      exact h1
theorem isAggWr : ∀ w, (isAgg 42).run Tryz.prog w = .ok true w := (agT_spec (P := Tryz.prog) (t := 42) (n := 3) (by kernel_rfl)).1
instance inhWrL : Inhabited Wr := ⟨⟨⟨#[]⟩, ⟨#[]⟩, false⟩⟩
theorem sortWr_spec {h : Heap} {B n c : Nat} {a : Option Addr} {xs : List Wr} (ho : Vc.Own WrE 42 B h a n c xs) (hn : n < 4611686018427387904) :
    HC Tryz.prog 106 #[.slice a n c, .func (.func 107) #[] #[]] h fun v h' => v = .tuple #[] ∧ ∃ ys, Vc.Own WrE 42 B h' a n c ys ∧ ys.Perm xs ∧ ys.Pairwise (fun x y => lt y.key x.key = false) ∧ Upd (blk a) h h' := by
  have hcall := fun (b cap : Nat) (d : Array Wr) (w : World) hH hb hs =>
    AnyQ.slices_SortFunc Tryz.sortWr 3 isAggWr Tryz.sizeOf42 WrE.enc (fun _ => rfl) (fun x v hv => by simp [WrE] at hv; rcases hv with rfl | rfl | rfl <;> rfl) (fun x y => cmpS x.key y.key) (swoKey fun x : Wr => x.key) 107 #[] b 0 cap d w (enters_of Tryz.func107 (by kernel_rfl) rfl) (fun _ _ _ _ x y => Tryz.lessWr x y _) hH hb hs
  have hnone := fun (cap : Nat) (w : World) => AnyF.slices_SortFunc_none Tryz.sortWr none cap (.func (.func 107) #[] #[]) w
  refine (sort_hc (f := 106) (g := 107) ho hn hcall hnone).mono ?_
  rintro v h' ⟨rfl, ys, oy, hp, hs, u⟩
  refine ⟨rfl, ys, oy, hp, hs.imp fun {x y} h => ?_, u⟩
  have : ltOf (fun x y : Wr => cmpS x.key y.key) y x = lt y.key x.key := cmpS_lt _ _
  rw [← this]; exact h
end Go.Proofs.YtkhinnchplahlaaGreatDoor
end

section
set_option maxRecDepth 100000
namespace Go.Proofs.YtkhinnchplahlaaGreatDoor
open Go Go.Vc Go.Proofs

theorem vcTbOf (A : Option Addr) (n c : Nat) (h : Heap) (R : Value → Heap → Prop) :
    vcF Tryz.prog Tryz.f51 48 [] [] [.slice A n c] h R =
(∃ (I0 : Int → Heap → Prop),
 ∃ (I1 : Int → Heap → Nat),
 I0 (0 : Int) (Array.push h (Obj.map (Array.mk []) 0)) ∧
 ∀ (n2 : Int) (h3 : Heap),
 I0 n2 h3 →
 br (decide (n2 < (↑n : Int)))
 (∃ (p4 : Addr),
 (A = some p4 ∧ (0 : Int) ≤ n2 ∧ n2 < (↑n : Int)) ∧
 ∃ (s5 : ByteArray),
 ∃ (s6 : ByteArray),
 ∃ (b7 : Bool),
 Reads Tryz.prog (Instr.loadAt 42 (.pointer (some (p4.add (n2.toNat * 3))))) h3 (.agg (Array.mk [.string s5, .string s6, .bool b7])) ∧
 SVC Tryz.prog
 (Instr.storeAt 42 (.pointer (some (Addr.mk (Array.size h3) 0 none))) (.agg (Array.mk [.string s5, .string s6, .bool b7])))
 (Array.push h3 (Obj.cells (Array.mk [.string (ByteArray.mk (Array.mk [])), .string (ByteArray.mk (Array.mk [])), .bool false]) 42))
 fun (x8 : Unit) (h9 : Heap) =>
 ∃ (b10 : Bool),
 Reads Tryz.prog (Instr.loadAt 4 (.pointer (some ((Addr.mk (Array.size h3) 0 none).add 2)))) h9 (.bool b10) ∧
 br b10
 (SVC Tryz.prog (Instr.storeAt 9 (.pointer (some ((Addr.mk (Array.size h3) 0 none).add 1))) (.string (ByteArray.mk (Array.mk [])))) h9
 fun (x11 : Unit) (h12 : Heap) =>
 ∃ (s13 : ByteArray),
 Reads Tryz.prog (Instr.loadAt 9 (.pointer (some (Addr.mk (Array.size h3) 0 none)))) h12 (.string s13) ∧
 ∃ (s14 : ByteArray),
 ∃ (s15 : ByteArray),
 ∃ (b16 : Bool),
 Reads Tryz.prog (Instr.loadAt 42 (.pointer (some (Addr.mk (Array.size h3) 0 none)))) h12
 (.agg (Array.mk [.string s14, .string s15, .bool b16])) ∧
 SVC Tryz.prog
 (Instr.mapUpdate 176 (.map (some (Array.size h))) (.string s13)
 (.agg (Array.mk [.string s14, .string s15, .bool b16])))
 h12 fun (x17 : Unit) (h18 : Heap) => I0 (IntKind.i64.wrap (n2 + (1 : Int))) h18 ∧ I1 (IntKind.i64.wrap (n2 + (1 : Int))) h18 < I1 n2 h3)
 (∃ (s19 : ByteArray),
 Reads Tryz.prog (Instr.loadAt 9 (.pointer (some (Addr.mk (Array.size h3) 0 none)))) h9 (.string s19) ∧
 ∃ (s20 : ByteArray),
 ∃ (s21 : ByteArray),
 ∃ (b22 : Bool),
 Reads Tryz.prog (Instr.loadAt 42 (.pointer (some (Addr.mk (Array.size h3) 0 none)))) h9
 (.agg (Array.mk [.string s20, .string s21, .bool b22])) ∧
 SVC Tryz.prog
 (Instr.mapUpdate 176 (.map (some (Array.size h))) (.string s19)
 (.agg (Array.mk [.string s20, .string s21, .bool b22])))
 h9 fun (x23 : Unit) (h24 : Heap) => I0 (IntKind.i64.wrap (n2 + (1 : Int))) h24 ∧ I1 (IntKind.i64.wrap (n2 + (1 : Int))) h24 < I1 n2 h3))
 (SVC Tryz.prog (Instr.range 176 (.map (some (Array.size h)))) (Array.push h3 (Obj.cells (Array.mk [.slice none 0 0]) 172))
 fun (v25 : Value) (h26 : Heap) =>
 ∃ (a27 : Option Addr),
 v25 = .pointer a27 ∧
 ∃ (I28 : Heap → Prop),
 ∃ (I29 : Heap → Nat),
 I28 h26 ∧
 ∀ (h30 : Heap),
 I28 h30 →
 SVC Tryz.prog (Instr.next (.pointer a27) false 0) h30 fun (v31 : Value) (h32 : Heap) =>
 (v31 = .tuple (Array.mk [.bool false]) ∧
 ∃ (p33 : Addr),
 some (Addr.mk (Array.size h3) 0 none) = some p33 ∧
 ∃ (a34 : Option Addr),
 ∃ (k35 : Nat),
 ∃ (k36 : Nat),
 Reads Tryz.prog (Instr.loadAt 32 (.pointer (some p33))) h32 (.slice a34 k35 k36) ∧
 HC Tryz.prog 106 (Array.mk [.slice a34 k35 k36, .func (Fn.func 107) (Array.mk []) (Array.mk [])]) h32
 fun (v37 : Value) (h38 : Heap) => v37 = .tuple (Array.mk []) ∧ R (.pointer (some (Addr.mk (Array.size h3) 0 none))) h38) ∨
 ∃ (v39 : Value),
 ∃ (v40 : Value),
 v31 = .tuple (Array.mk [.bool true, v39, v40]) ∧
 ∃ (v41 : Value),
 ∃ (s42 : ByteArray),
 ∃ (s43 : ByteArray),
 ∃ (b44 : Bool),
 Reads Tryz.prog (Instr.entry (.pointer a27)) h32
 (.tuple (Array.mk [v41, .agg (Array.mk [.string s42, .string s43, .bool b44])])) ∧
 SVC Tryz.prog
 (Instr.storeAt 42 (.pointer (some (Addr.mk (Array.size h32) 0 none)))
 (.agg (Array.mk [.string s42, .string s43, .bool b44])))
 (Array.push h32
 (Obj.cells (Array.mk [.string (ByteArray.mk (Array.mk [])), .string (ByteArray.mk (Array.mk [])), .bool false]) 42))
 fun (x45 : Unit) (h46 : Heap) =>
 ∃ (I47 : Heap → Prop),
 I47 h46 ∧
 ∃ (p48 : Addr),
 some (Addr.mk (Array.size h3) 0 none) = some p48 ∧
 ∃ (a49 : Option Addr),
 ∃ (k50 : Nat),
 ∃ (k51 : Nat),
 (∀ (h52 : Heap), I47 h52 → Reads Tryz.prog (Instr.loadAt 32 (.pointer (some p48))) h52 (.slice a49 k50 k51)) ∧
 ∃ (s53 : ByteArray),
 ∃ (s54 : ByteArray),
 ∃ (b55 : Bool),
 Reads Tryz.prog (Instr.loadAt 42 (.pointer (some (Addr.mk (Array.size h32) 0 none)))) h46
 (.agg (Array.mk [.string s53, .string s54, .bool b55])) ∧
 SVC Tryz.prog
 (Instr.buildSlice 32 1
 (Array.mk [(0, .agg (Array.mk [.string s53, .string s54, .bool b55]))]))
 h46 fun (v56 : Value) (h57 : Heap) =>
 ∃ (a58 : Option Addr),
 ∃ (k59 : Nat),
 ∃ (k60 : Nat),
 v56 = .slice a58 k59 k60 ∧
 I47 h57 ∧
 SVC Tryz.prog
 (Builtin.append_ (Array.mk [32, 32]) 32
 (Array.mk [.slice a49 k50 k51, .slice a58 k59 k60]))
 h57 fun (v61 : Value) (h62 : Heap) =>
 ∃ (a63 : Option Addr),
 ∃ (k64 : Nat),
 ∃ (k65 : Nat),
 v61 = .slice a63 k64 k65 ∧
 ∃ (p66 : Addr),
 some (Addr.mk (Array.size h3) 0 none) = some p66 ∧
 SVC Tryz.prog (Instr.storeAt 32 (.pointer (some p66)) (.slice a63 k64 k65)) h62
 fun (x67 : Unit) (h68 : Heap) => I28 h68 ∧ I29 h68 < I29 h30)) := by kernel_rfl

theorem vcTbAll (t : Nat) (h : Heap) (R : Value → Heap → Prop) :
    vcF Tryz.prog Tryz.f52 10 [] [] [.pointer (some ⟨t, 0, none⟩)] h R =
(∃ (b0 : Bool),
 Reads Tryz.prog (eqSem BinOp.eql 95 (Operand.tmp 3) (Operand.const (.pointer none)) (.pointer (some (Addr.mk t 0 none))) (.pointer none)) h (.bool b0) ∧
 br b0 (R (.slice none 0 0) h)
 (∃ (p1 : Addr),
 some (Addr.mk t 0 none) = some p1 ∧
 ∃ (a2 : Option Addr),
 ∃ (k3 : Nat),
 ∃ (k4 : Nat),
 Reads Tryz.prog (Instr.loadAt 32 (.pointer (some p1))) h (.slice a2 k3 k4) ∧
 HC Tryz.prog 108 (Array.mk [.slice a2 k3 k4]) h fun (v5 : Value) (h6 : Heap) =>
 ∃ (a7 : Option Addr), ∃ (k8 : Nat), ∃ (k9 : Nat), v5 = .slice a7 k8 k9 ∧ R (.slice a7 k8 k9) h6)) := by kernel_rfl

theorem vcTbGet (t : Nat) (k : ByteArray) (h : Heap) (R : Value → Heap → Prop) :
    vcF Tryz.prog Tryz.f48 30 [] [] [.pointer (some ⟨t, 0, none⟩), .string k] h R =
(∃ (b0 : Bool),
 Reads Tryz.prog (eqSem BinOp.eql 95 (Operand.tmp 8) (Operand.const (.pointer none)) (.pointer (some (Addr.mk t 0 none))) (.pointer none))
 (Array.push h (Obj.cells (Array.mk [.string (ByteArray.mk (Array.mk [])), .string (ByteArray.mk (Array.mk [])), .bool false]) 42)) (.bool b0) ∧
 br b0
 (SVC Tryz.prog
 (Instr.storeAt 42 (.pointer (some (Addr.mk (Array.size h) 0 none)))
 (.agg (Array.mk [.string (ByteArray.mk (Array.mk [])), .string (ByteArray.mk (Array.mk [])), .bool false])))
 (Array.push h (Obj.cells (Array.mk [.string (ByteArray.mk (Array.mk [])), .string (ByteArray.mk (Array.mk [])), .bool false]) 42)) fun (x1 : Unit) (h2 : Heap) =>
 ∃ (s3 : ByteArray),
 ∃ (s4 : ByteArray),
 ∃ (b5 : Bool),
 Reads Tryz.prog (loadVar 42 (Addr.mk (Array.size h) 0 none)) h2 (.agg (Array.mk [.string s3, .string s4, .bool b5])) ∧
 R (.tuple (Array.mk [.agg (Array.mk [.string s3, .string s4, .bool b5]), .bool false])) h2)
 (∃ (p6 : Addr),
 some (Addr.mk t 0 none) = some p6 ∧
 ∃ (a7 : Option Addr),
 ∃ (k8 : Nat),
 ∃ (k9 : Nat),
 Reads Tryz.prog (Instr.loadAt 32 (.pointer (some p6)))
 (Array.push h (Obj.cells (Array.mk [.string (ByteArray.mk (Array.mk [])), .string (ByteArray.mk (Array.mk [])), .bool false]) 42)) (.slice a7 k8 k9) ∧
 HC Tryz.prog 101 (Array.mk [.slice a7 k8 k9, .string k, .func (Fn.func 102) (Array.mk []) (Array.mk [])])
 (Array.push h (Obj.cells (Array.mk [.string (ByteArray.mk (Array.mk [])), .string (ByteArray.mk (Array.mk [])), .bool false]) 42))
 fun (v10 : Value) (h11 : Heap) =>
 ∃ (n12 : Int),
 ∃ (b13 : Bool),
 v10 = .tuple (Array.mk [.int .i64 n12, .bool b13]) ∧
 br (!b13)
 (SVC Tryz.prog
 (Instr.storeAt 42 (.pointer (some (Addr.mk (Array.size h) 0 none)))
 (.agg (Array.mk [.string (ByteArray.mk (Array.mk [])), .string (ByteArray.mk (Array.mk [])), .bool false])))
 h11 fun (x14 : Unit) (h15 : Heap) =>
 ∃ (s16 : ByteArray),
 ∃ (s17 : ByteArray),
 ∃ (b18 : Bool),
 Reads Tryz.prog (loadVar 42 (Addr.mk (Array.size h) 0 none)) h15 (.agg (Array.mk [.string s16, .string s17, .bool b18])) ∧
 R (.tuple (Array.mk [.agg (Array.mk [.string s16, .string s17, .bool b18]), .bool false])) h15)
 (∃ (p19 : Addr),
 some (Addr.mk t 0 none) = some p19 ∧
 ∃ (a20 : Option Addr),
 ∃ (k21 : Nat),
 ∃ (k22 : Nat),
 Reads Tryz.prog (Instr.loadAt 32 (.pointer (some p19))) h11 (.slice a20 k21 k22) ∧
 ∃ (p23 : Addr),
 (a20 = some p23 ∧ (0 : Int) ≤ n12 ∧ n12 < (↑k21 : Int)) ∧
 ∃ (s24 : ByteArray),
 ∃ (s25 : ByteArray),
 ∃ (b26 : Bool),
 Reads Tryz.prog (Instr.loadAt 42 (.pointer (some (p23.add (n12.toNat * 3))))) h11
 (.agg (Array.mk [.string s24, .string s25, .bool b26])) ∧
 SVC Tryz.prog
 (Instr.storeAt 42 (.pointer (some (Addr.mk (Array.size h) 0 none)))
 (.agg (Array.mk [.string s24, .string s25, .bool b26])))
 h11 fun (x27 : Unit) (h28 : Heap) =>
 ∃ (s29 : ByteArray),
 ∃ (s30 : ByteArray),
 ∃ (b31 : Bool),
 Reads Tryz.prog (loadVar 42 (Addr.mk (Array.size h) 0 none)) h28
 (.agg (Array.mk [.string s29, .string s30, .bool b31])) ∧
 R (.tuple (Array.mk [.agg (Array.mk [.string s29, .string s30, .bool b31]), .bool true])) h28))) := by kernel_rfl

theorem vcTbMerge (b : Bool) (A : Option Addr) (n c : Nat) (h : Heap) (R : Value → Heap → Prop) :
    vcF Tryz.prog Tryz.f49 32 [] [] [.bool b, .slice A n c] h R =
(∃ (I0 : Option Addr → Nat → Nat → Int → Heap → Prop),
 ∃ (I1 : Option Addr → Nat → Nat → Int → Heap → Nat),
 I0 none 0 0 (0 : Int) h ∧
 ∀ (a2 : Option Addr) (k3 k4 : Nat) (n5 : Int) (h6 : Heap),
 I0 a2 k3 k4 n5 h6 →
 br (decide (n5 < (↑n : Int)))
 (∃ (p7 : Addr),
 (A = some p7 ∧ (0 : Int) ≤ n5 ∧ n5 < (↑n : Int)) ∧
 ∃ (a8 : Option Addr),
 Reads Tryz.prog (Instr.loadAt 95 (.pointer (some (p7.add (n5.toNat * 1))))) h6 (.pointer a8) ∧
 HC Tryz.prog 52 (Array.mk [.pointer a8]) h6 fun (v9 : Value) (h10 : Heap) =>
 ∃ (a11 : Option Addr),
 ∃ (k12 : Nat),
 ∃ (k13 : Nat),
 v9 = .slice a11 k12 k13 ∧
 SVC Tryz.prog (Builtin.append_ (Array.mk [32, 32]) 32 (Array.mk [.slice a2 k3 k4, .slice a11 k12 k13])) h10
 fun (v14 : Value) (h15 : Heap) =>
 ∃ (a16 : Option Addr),
 ∃ (k17 : Nat),
 ∃ (k18 : Nat),
 v14 = .slice a16 k17 k18 ∧
 I0 a16 k17 k18 (IntKind.i64.wrap (n5 + (1 : Int))) h15 ∧ I1 a16 k17 k18 (IntKind.i64.wrap (n5 + (1 : Int))) h15 < I1 a2 k3 k4 n5 h6)
 (HC Tryz.prog 51 (Array.mk [.slice a2 k3 k4]) h6 fun (v19 : Value) (h20 : Heap) =>
 ∃ (a21 : Option Addr),
 v19 = .pointer a21 ∧
 br b
 (∃ (p22 : Addr),
 a21 = some p22 ∧
 ∃ (a23 : Option Addr),
 ∃ (k24 : Nat),
 ∃ (k25 : Nat),
 Reads Tryz.prog (Instr.loadAt 32 (.pointer (some p22))) h20 (.slice a23 k24 k25) ∧
 HC Tryz.prog 104 (Array.mk [.slice a23 k24 k25, .func (Fn.func 105) (Array.mk []) (Array.mk [])]) h20 fun (v26 : Value) (h27 : Heap) =>
 ∃ (a28 : Option Addr),
 ∃ (k29 : Nat),
 ∃ (k30 : Nat),
 v26 = .slice a28 k29 k30 ∧
 ∃ (p31 : Addr),
 a21 = some p31 ∧
 SVC Tryz.prog (Instr.storeAt 32 (.pointer (some p31)) (.slice a28 k29 k30)) h27 fun (x32 : Unit) (h33 : Heap) =>
 R (.pointer a21) h33)
 (R (.pointer a21) h20))) := by kernel_rfl

theorem vcTbBytes (t : Nat) (h : Heap) (R : Value → Heap → Prop) :
    vcF Tryz.prog Tryz.f96 34 [] [] [.pointer (some ⟨t, 0, none⟩)] h R =
(HC Tryz.prog 52 (Array.mk [.pointer (some (Addr.mk t 0 none))]) h fun (v0 : Value) (h1 : Heap) =>
 ∃ (a2 : Option Addr),
 ∃ (k3 : Nat),
 ∃ (k4 : Nat),
 v0 = .slice a2 k3 k4 ∧
 HC Tryz.prog 136 (Array.mk [.slice none 0 0, .int .u64 (IntKind.u64.wrap (↑k3 : Int))]) h1 fun (v5 : Value) (h6 : Heap) =>
 ∃ (a7 : Option Addr),
 ∃ (k8 : Nat),
 ∃ (k9 : Nat),
 v5 = .slice a7 k8 k9 ∧
 HC Tryz.prog 52 (Array.mk [.pointer (some (Addr.mk t 0 none))]) h6 fun (v10 : Value) (h11 : Heap) =>
 ∃ (a12 : Option Addr),
 ∃ (k13 : Nat),
 ∃ (k14 : Nat),
 v10 = .slice a12 k13 k14 ∧
 ∃ (I15 : Option Addr → Nat → Nat → Int → Heap → Prop),
 ∃ (I16 : Option Addr → Nat → Nat → Int → Heap → Nat),
 I15 a7 k8 k9 (0 : Int) h11 ∧
 ∀ (a17 : Option Addr) (k18 k19 : Nat) (n20 : Int) (h21 : Heap),
 I15 a17 k18 k19 n20 h21 →
 br (decide (n20 < (↑k13 : Int)))
 (∃ (p22 : Addr),
 (a12 = some p22 ∧ (0 : Int) ≤ n20 ∧ n20 < (↑k13 : Int)) ∧
 ∃ (s23 : ByteArray),
 ∃ (s24 : ByteArray),
 ∃ (b25 : Bool),
 Reads Tryz.prog (Instr.loadAt 42 (.pointer (some (p22.add (n20.toNat * 3))))) h21
 (.agg (Array.mk [.string s23, .string s24, .bool b25])) ∧
 SVC Tryz.prog
 (Instr.storeAt 42 (.pointer (some (Addr.mk (Array.size h21) 0 none)))
 (.agg (Array.mk [.string s23, .string s24, .bool b25])))
 (Array.push h21
 (Obj.cells (Array.mk [.string (ByteArray.mk (Array.mk [])), .string (ByteArray.mk (Array.mk [])), .bool false]) 42))
 fun (x26 : Unit) (h27 : Heap) =>
 ∃ (b28 : Bool),
 Reads Tryz.prog (Instr.loadAt 4 (.pointer (some ((Addr.mk (Array.size h21) 0 none).add 2)))) h27
 (.bool b28) ∧
 br b28
 (∃ (I29 : Heap → Prop),
 I29 h27 ∧
 HC Tryz.prog 136 (Array.mk [.slice a17 k18 k19, .int .u64 (1 : Int)]) h27 fun (v30 : Value) (h31 : Heap) =>
 ∃ (a32 : Option Addr),
 ∃ (k33 : Nat),
 ∃ (k34 : Nat),
 v30 = .slice a32 k33 k34 ∧
 I29 h31 ∧
 ∃ (s35 : ByteArray),
 (∀ (h36 : Heap),
 I29 h36 →
 Reads Tryz.prog (Instr.loadAt 9 (.pointer (some (Addr.mk (Array.size h21) 0 none)))) h36
 (.string s35)) ∧
 HC Tryz.prog 93 (Array.mk [.slice a32 k33 k34, .string s35]) h31 fun (v37 : Value) (h38 : Heap) =>
 ∃ (a39 : Option Addr),
 ∃ (k40 : Nat),
 ∃ (k41 : Nat),
 v37 = .slice a39 k40 k41 ∧
 I29 h38 ∧
 ∃ (s42 : ByteArray),
 (∀ (h43 : Heap),
 I29 h43 →
 Reads Tryz.prog
 (Instr.loadAt 9
 (.pointer (some ((Addr.mk (Array.size h21) 0 none).add 1))))
 h43 (.string s42)) ∧
 HC Tryz.prog 93 (Array.mk [.slice a39 k40 k41, .string s42]) h38
 fun (v44 : Value) (h45 : Heap) =>
 ∃ (a46 : Option Addr),
 ∃ (k47 : Nat),
 ∃ (k48 : Nat),
 v44 = .slice a46 k47 k48 ∧
 I15 a46 k47 k48 (IntKind.i64.wrap (n20 + (1 : Int))) h45 ∧
 I16 a46 k47 k48 (IntKind.i64.wrap (n20 + (1 : Int))) h45 < I16 a17 k18 k19 n20 h21)
 (∃ (I49 : Heap → Prop),
 I49 h27 ∧
 HC Tryz.prog 136 (Array.mk [.slice a17 k18 k19, .int .u64 (0 : Int)]) h27 fun (v50 : Value) (h51 : Heap) =>
 ∃ (a52 : Option Addr),
 ∃ (k53 : Nat),
 ∃ (k54 : Nat),
 v50 = .slice a52 k53 k54 ∧
 I49 h51 ∧
 ∃ (s55 : ByteArray),
 (∀ (h56 : Heap),
 I49 h56 →
 Reads Tryz.prog (Instr.loadAt 9 (.pointer (some (Addr.mk (Array.size h21) 0 none)))) h56
 (.string s55)) ∧
 HC Tryz.prog 93 (Array.mk [.slice a52 k53 k54, .string s55]) h51 fun (v57 : Value) (h58 : Heap) =>
 ∃ (a59 : Option Addr),
 ∃ (k60 : Nat),
 ∃ (k61 : Nat),
 v57 = .slice a59 k60 k61 ∧
 I49 h58 ∧
 ∃ (s62 : ByteArray),
 (∀ (h63 : Heap),
 I49 h63 →
 Reads Tryz.prog
 (Instr.loadAt 9
 (.pointer (some ((Addr.mk (Array.size h21) 0 none).add 1))))
 h63 (.string s62)) ∧
 HC Tryz.prog 93 (Array.mk [.slice a59 k60 k61, .string s62]) h58
 fun (v64 : Value) (h65 : Heap) =>
 ∃ (a66 : Option Addr),
 ∃ (k67 : Nat),
 ∃ (k68 : Nat),
 v64 = .slice a66 k67 k68 ∧
 I15 a66 k67 k68 (IntKind.i64.wrap (n20 + (1 : Int))) h65 ∧
 I16 a66 k67 k68 (IntKind.i64.wrap (n20 + (1 : Int))) h65 < I16 a17 k18 k19 n20 h21))
 (∃ (s69 : ByteArray),
 Reads Tryz.prog (convert 146 9 (.slice a17 k18 k19)) h21 (.string s69) ∧
 HC Tryz.prog 91 (Array.mk [.slice none 0 0, .string s69]) h21 fun (v70 : Value) (h71 : Heap) =>
 ∃ (a72 : Option Addr), ∃ (k73 : Nat), ∃ (k74 : Nat), v70 = .slice a72 k73 k74 ∧ R (.slice a72 k73 k74) h71)) := by kernel_rfl

theorem vcTbRead (A : Option Addr) (n c : Nat) (h : Heap) (R : Value → Heap → Prop) :
    vcF Tryz.prog Tryz.f113 106 [] [] [.slice A n c] h R =
(HC Tryz.prog 78 (Array.mk [.slice A n c]) h fun (v0 : Value) (h1 : Heap) =>
 ∃ (a2 : Option Addr),
 ∃ (k3 : Nat),
 ∃ (k4 : Nat),
 ∃ (n5 : Int),
 v0 = .tuple (Array.mk [.slice a2 k3 k4, .int .i64 n5]) ∧
 ((!(↑k3 : Int) != (1 : Int)) = true → (0 : Int) ≤ n5 ∧ n5 ≤ (↑n : Int) ∧ (↑n : Int) ≤ (↑c : Int) ∧ (↑c : Int) ≤ (↑c : Int)) ∧
 br (bif bif (↑k3 : Int) == (1 : Int) then false else true then false else true)
 (HC Tryz.prog 149 (Array.mk [.slice (subA A n5.toNat c 1) (n - n5.toNat) (c - n5.toNat), .func (Fn.func 150) (Array.mk []) (Array.mk [])]) h1
 fun (v6 : Value) (h7 : Heap) =>
 ∃ (b8 : Bool),
 v6 = .bool b8 ∧
 br b8 (R (.tuple (Array.mk [.pointer none, .int .i64 (4 : Int)])) h7)
 (∃ (p9 : Addr),
 (a2 = some p9 ∧ (0 : Int) ≤ (0 : Int) ∧ (0 : Int) < (↑k3 : Int)) ∧
 ∃ (s10 : ByteArray),
 Reads Tryz.prog (Instr.loadAt 9 (.pointer (some p9))) h7 (.string s10) ∧
 SVC Tryz.prog (convert 9 146 (.string s10)) h7 fun (v11 : Value) (h12 : Heap) =>
 ∃ (a13 : Option Addr),
 ∃ (k14 : Nat),
 ∃ (k15 : Nat),
 v11 = .slice a13 k14 k15 ∧
 HC Tryz.prog 84 (Array.mk [.slice a13 k14 k15]) h12 fun (v16 : Value) (h17 : Heap) =>
 ∃ (a18 : Option Addr),
 v16 = .pointer a18 ∧
 HC Tryz.prog 87 (Array.mk [.pointer a18]) (Array.push h17 (Obj.cells (Array.mk [.slice none 0 0]) 172))
 fun (v19 : Value) (h20 : Heap) =>
 ∃ (n21 : Int),
 v19 = .int .u64 n21 ∧
 ∃ (I22 : Option Addr → Int → Int → Heap → Prop),
 ∃ (I23 : Option Addr → Int → Int → Heap → Nat),
 I22 none (0 : Int) n21 h20 ∧
 ∀ (a24 : Option Addr) (n25 n26 : Int) (h27 : Heap),
 I22 a24 n25 n26 h27 →
 br (decide (n26 > (0 : Int)))
 (HC Tryz.prog 88 (Array.mk [.pointer a18]) h27 fun (v28 : Value) (h29 : Heap) =>
 ∃ (b30 : Bool),
 v28 = .bool b30 ∧
 br b30
 (HC Tryz.prog 87 (Array.mk [.pointer a18]) h29 fun (v31 : Value) (h32 : Heap) =>
 ∃ (n33 : Int),
 v31 = .int .u64 n33 ∧
 SVC Tryz.prog
 (Instr.storeAt 42 (.pointer (some (Addr.mk (Array.size h32) 0 none)))
 (.agg
 (Array.mk
 [.string (ByteArray.mk (Array.mk [])), .string (ByteArray.mk (Array.mk [])),
 .bool (n33 == (1 : Int))])))
 (Array.push h32
 (Obj.cells
 (Array.mk
 [.string (ByteArray.mk (Array.mk [])), .string (ByteArray.mk (Array.mk [])), .bool false])
 42))
 fun (x34 : Unit) (h35 : Heap) =>
 HC Tryz.prog 86 (Array.mk [.pointer a18, .int .i64 (48 : Int)]) h35
 fun (v36 : Value) (h37 : Heap) =>
 ∃ (s38 : ByteArray),
 v36 = .string s38 ∧
 HC Tryz.prog 86 (Array.mk [.pointer a18, .int .i64 (160 : Int)]) h37
 fun (v39 : Value) (h40 : Heap) =>
 ∃ (s41 : ByteArray),
 v39 = .string s41 ∧
 SVC Tryz.prog
 (Instr.storeAt 9 (.pointer (some (Addr.mk (Array.size h32) 0 none)))
 (.string s38))
 h40 fun (x42 : Unit) (h43 : Heap) =>
 SVC Tryz.prog
 (Instr.storeAt 9
 (.pointer (some ((Addr.mk (Array.size h32) 0 none).add 1))) (.string s41))
 h43 fun (x44 : Unit) (h45 : Heap) =>
 ∃ (p46 : Addr),
 some (Addr.mk (Array.size h17) 0 none) = some p46 ∧
 ∃ (a47 : Option Addr),
 ∃ (k48 : Nat),
 ∃ (k49 : Nat),
 Reads Tryz.prog (Instr.loadAt 32 (.pointer (some p46))) h45
 (.slice a47 k48 k49) ∧
 ∃ (p50 : Addr),
 (decide ((↑k48 : Int) > (0 : Int)) = true →
 some (Addr.mk (Array.size h17) 0 none) = some p50) ∧
 ∃ (a51 : Option Addr),
 ∃ (k52 : Nat),
 ∃ (k53 : Nat),
 (decide ((↑k48 : Int) > (0 : Int)) = true →
 Reads Tryz.prog (Instr.loadAt 32 (.pointer (some p50))) h45
 (.slice a51 k52 k53)) ∧
 ∃ (p54 : Addr),
 (decide ((↑k48 : Int) > (0 : Int)) = true →
 a51 = some p54 ∧
 (0 : Int) ≤ IntKind.i64.wrap ((↑k48 : Int) - (1 : Int)) ∧
 IntKind.i64.wrap ((↑k48 : Int) - (1 : Int)) < (↑k52 : Int)) ∧
 ∃ (s55 : ByteArray),
 (decide ((↑k48 : Int) > (0 : Int)) = true →
 Reads Tryz.prog
 (Instr.loadAt 9
 (.pointer
 (some
 (p54.add
 ((IntKind.i64.wrap ((↑k48 : Int) - (1 : Int))).toNat *
 3)))))
 h45 (.string s55)) ∧
 ∃ (s56 : ByteArray),
 (decide ((↑k48 : Int) > (0 : Int)) = true →
 Reads Tryz.prog
 (Instr.loadAt 9
 (.pointer
 (some (Addr.mk (Array.size h32) 0 none))))
 h45 (.string s56)) ∧
 ∃ (b57 : Bool),
 ((!(decide ((↑k48 : Int) > (0 : Int)) &&
 !Op.bytesLess s55.toList s56.toList)) =
 true →
 Reads Tryz.prog
 (Instr.loadAt 4
 (.pointer
 (some
 ((Addr.mk (Array.size h32) 0 none).add
 2))))
 h45 (.bool b57)) ∧
 ∃ (s58 : ByteArray),
 ((b57 &&
 !(decide ((↑k48 : Int) > (0 : Int)) &&
 !Op.bytesLess s55.toList s56.toList)) =
 true →
 Reads Tryz.prog
 (Instr.loadAt 9
 (.pointer
 (some
 ((Addr.mk (Array.size h32) 0 none).add
 1))))
 h45 (.string s58)) ∧
 br
 (decide ((↑k48 : Int) > (0 : Int)) &&
 !Op.bytesLess s55.toList s56.toList ||
 b57 && !s58.toList == [])
 (R
 (.tuple
 (Array.mk
 [.pointer none,
 .int .i64 (4 : Int)]))
 h45)
 (∃ (I59 : Heap → Prop),
 I59 h45 ∧
 ∃ (p60 : Addr),
 some (Addr.mk (Array.size h17) 0 none) =
 some p60 ∧
 ∃ (a61 : Option Addr),
 ∃ (k62 : Nat),
 ∃ (k63 : Nat),
 (∀ (h64 : Heap),
 I59 h64 →
 Reads Tryz.prog
 (Instr.loadAt 32
 (.pointer (some p60)))
 h64 (.slice a61 k62 k63)) ∧
 ∃ (s65 : ByteArray),
 ∃ (s66 : ByteArray),
 ∃ (b67 : Bool),
 Reads Tryz.prog
 (Instr.loadAt 42
 (.pointer
 (some
 (Addr.mk
 (Array.size h32)
 0 none))))
 h45
 (.agg
 (Array.mk
 [.string s65,
 .string s66,
 .bool b67])) ∧
 SVC Tryz.prog
 (Instr.buildSlice 32
 1
 (Array.mk
 [(0,
 .agg
 (Array.mk
 [.string s65,
 .string
 s66,
 .bool
 b67]))]))
 h45
 fun (v68 : Value)
 (h69 : Heap) =>
 ∃ (a70 : Option Addr),
 ∃ (k71 : Nat),
 ∃ (k72 : Nat),
 v68 =
 .slice a70 k71
 k72 ∧
 I59 h69 ∧
 SVC Tryz.prog
 (Builtin.append_
 (Array.mk
 [32,
 32])
 32
 (Array.mk
 [.slice
 a61 k62
 k63,
 .slice
 a70 k71
 k72]))
 h69
 fun (v73 : Value)
 (h74 : Heap) =>
 ∃ (a75 :
 Option Addr),
 ∃ (k76 : Nat),
 ∃ (k77 : Nat),
 v73 =
 .slice
 a75
 k76
 k77 ∧
 ∃ (p78 :
 Addr),
 some
 (Addr.mk
 (Array.size
 h17)
 (0 :
 Nat)
 none) =
 some
 p78 ∧
 SVC
 Tryz.prog
 (Instr.storeAt
 (32 :
 Nat)
 (.pointer
 (some
 p78))
 (.slice
 a75
 k76
 k77))
 h74
 fun
 (x79 :
 Unit)
 (h80 :
 Heap) =>
 I22
 a24
 n25
 (IntKind.u64.wrap
 (n26 -
 (1 :
 Int)))
 h80 ∧
 I23
 a24
 n25
 (IntKind.u64.wrap
 (n26 -
 (1 :
 Int)))
 h80 <
 I23
 a24
 n25
 n26
 h27))
 (∃ (I81 : Heap → Prop),
 I81 h29 ∧
 HC Tryz.prog 89 (Array.mk [.pointer a18]) h29 fun (v82 : Value) (h83 : Heap) =>
 ∃ (b84 : Bool),
 v82 = .bool b84 ∧
 I81 h83 ∧
 ((!!b84) = true → (0 : Int) ≤ n5 ∧ n5 ≤ (↑c : Int) ∧ (↑c : Int) ≤ (↑c : Int)) ∧
 br (bif bif b84 then false else true then false else true)
 (HC Tryz.prog 96 (Array.mk [.pointer (some (Addr.mk (Array.size h17) 0 none))]) h83
 fun (v85 : Value) (h86 : Heap) =>
 ∃ (a87 : Option Addr),
 ∃ (k88 : Nat),
 ∃ (k89 : Nat),
 v85 = .slice a87 k88 k89 ∧
 I81 h86 ∧
 (∃ (s90 : ByteArray),
 (true = true →
 Reads Tryz.prog (convert 146 9 (.slice a87 k88 k89)) h86
 (.string s90)) ∧
 ∃ (s91 : ByteArray),
 Reads Tryz.prog (convert 146 9 (.slice A n5.toNat c)) h86
 (.string s91) ∧
 I81 h86 ∧
 br (!s90.toList == s91.toList)
 (R (.tuple (Array.mk [.pointer none, .int .i64 (4 : Int)]))
 h86)
 (R
 (.tuple
 (Array.mk
 [.pointer (some (Addr.mk (Array.size h17) 0 none)),
 .int .i64 (0 : Int)]))
 h86)) ∧
 ∃ (s92 : ByteArray),
 Reads Tryz.prog (convert 146 9 (.slice A n5.toNat c)) h86
 (.string s92) ∧
 I81 h86 ∧
 ∃ (s93 : ByteArray),
 (true = true →
 Reads Tryz.prog (convert 146 9 (.slice a87 k88 k89)) h86
 (.string s93)) ∧
 br (!s93.toList == s92.toList)
 (R (.tuple (Array.mk [.pointer none, .int .i64 (4 : Int)]))
 h86)
 (R
 (.tuple
 (Array.mk
 [.pointer (some (Addr.mk (Array.size h17) 0 none)),
 .int .i64 (0 : Int)]))
 h86))
 (R (.tuple (Array.mk [.pointer none, .int .i64 (4 : Int)])) h83 ∧
 R (.tuple (Array.mk [.pointer none, .int .i64 (4 : Int)])) h83) ∧
 br (bif bif b84 then false else true then false else true)
 (∃ (s94 : ByteArray),
 Reads Tryz.prog (convert 146 9 (.slice A n5.toNat c)) h83 (.string s94) ∧
 I81 h83 ∧
 HC Tryz.prog 96 (Array.mk [.pointer (some (Addr.mk (Array.size h17) 0 none))])
 h83 fun (v95 : Value) (h96 : Heap) =>
 ∃ (a97 : Option Addr),
 ∃ (k98 : Nat),
 ∃ (k99 : Nat),
 v95 = .slice a97 k98 k99 ∧
 I81 h96 ∧
 ∃ (s100 : ByteArray),
 (true = true →
 Reads Tryz.prog (convert 146 9 (.slice a97 k98 k99)) h96
 (.string s100)) ∧
 br (!s100.toList == s94.toList)
 (R (.tuple (Array.mk [.pointer none, .int .i64 (4 : Int)]))
 h96)
 (R
 (.tuple
 (Array.mk
 [.pointer (some (Addr.mk (Array.size h17) 0 none)),
 .int .i64 (0 : Int)]))
 h96))
 (R (.tuple (Array.mk [.pointer none, .int .i64 (4 : Int)])) h83)))
 (∃ (I101 : Heap → Prop),
 I101 h27 ∧
 HC Tryz.prog 89 (Array.mk [.pointer a18]) h27 fun (v102 : Value) (h103 : Heap) =>
 ∃ (b104 : Bool),
 v102 = .bool b104 ∧
 I101 h103 ∧
 ((!!b104) = true → (0 : Int) ≤ n5 ∧ n5 ≤ (↑c : Int) ∧ (↑c : Int) ≤ (↑c : Int)) ∧
 br (bif bif b104 then false else true then false else true)
 (HC Tryz.prog 96 (Array.mk [.pointer (some (Addr.mk (Array.size h17) 0 none))]) h103
 fun (v105 : Value) (h106 : Heap) =>
 ∃ (a107 : Option Addr),
 ∃ (k108 : Nat),
 ∃ (k109 : Nat),
 v105 = .slice a107 k108 k109 ∧
 I101 h106 ∧
 (∃ (s110 : ByteArray),
 (true = true →
 Reads Tryz.prog (convert 146 9 (.slice a107 k108 k109)) h106
 (.string s110)) ∧
 ∃ (s111 : ByteArray),
 Reads Tryz.prog (convert 146 9 (.slice A n5.toNat c)) h106
 (.string s111) ∧
 I101 h106 ∧
 br (!s110.toList == s111.toList)
 (R (.tuple (Array.mk [.pointer none, .int .i64 (4 : Int)])) h106)
 (R
 (.tuple
 (Array.mk
 [.pointer (some (Addr.mk (Array.size h17) 0 none)),
 .int .i64 (0 : Int)]))
 h106)) ∧
 ∃ (s112 : ByteArray),
 Reads Tryz.prog (convert 146 9 (.slice A n5.toNat c)) h106
 (.string s112) ∧
 I101 h106 ∧
 ∃ (s113 : ByteArray),
 (true = true →
 Reads Tryz.prog (convert 146 9 (.slice a107 k108 k109)) h106
 (.string s113)) ∧
 br (!s113.toList == s112.toList)
 (R (.tuple (Array.mk [.pointer none, .int .i64 (4 : Int)])) h106)
 (R
 (.tuple
 (Array.mk
 [.pointer (some (Addr.mk (Array.size h17) 0 none)),
 .int .i64 (0 : Int)]))
 h106))
 (R (.tuple (Array.mk [.pointer none, .int .i64 (4 : Int)])) h103 ∧
 R (.tuple (Array.mk [.pointer none, .int .i64 (4 : Int)])) h103) ∧
 br (bif bif b104 then false else true then false else true)
 (∃ (s114 : ByteArray),
 Reads Tryz.prog (convert 146 9 (.slice A n5.toNat c)) h103 (.string s114) ∧
 I101 h103 ∧
 HC Tryz.prog 96 (Array.mk [.pointer (some (Addr.mk (Array.size h17) 0 none))]) h103
 fun (v115 : Value) (h116 : Heap) =>
 ∃ (a117 : Option Addr),
 ∃ (k118 : Nat),
 ∃ (k119 : Nat),
 v115 = .slice a117 k118 k119 ∧
 I101 h116 ∧
 ∃ (s120 : ByteArray),
 (true = true →
 Reads Tryz.prog (convert 146 9 (.slice a117 k118 k119)) h116
 (.string s120)) ∧
 br (!s120.toList == s114.toList)
 (R (.tuple (Array.mk [.pointer none, .int .i64 (4 : Int)])) h116)
 (R
 (.tuple
 (Array.mk
 [.pointer (some (Addr.mk (Array.size h17) 0 none)),
 .int .i64 (0 : Int)]))
 h116))
 (R (.tuple (Array.mk [.pointer none, .int .i64 (4 : Int)])) h103))))
 (R (.tuple (Array.mk [.pointer none, .int .i64 (4 : Int)])) h1)) := by kernel_rfl

theorem vcTbSave (t d : Nat) (s : ByteArray) (h : Heap) (R : Value → Heap → Prop) :
    vcF Tryz.prog Tryz.f97 53 [] [] [.pointer (some ⟨t, 0, none⟩), .pointer (some ⟨d, 0, none⟩), .string s] h R =
(∃ (b0 : Bool),
 Reads Tryz.prog (eqSem BinOp.eql 95 (Operand.tmp 12) (Operand.const (.pointer none)) (.pointer (some (Addr.mk t 0 none))) (.pointer none)) h (.bool b0) ∧
 ∃ (b1 : Bool),
 ((!b0) = true →
 Reads Tryz.prog (eqSem BinOp.eql 25 (Operand.tmp 15) (Operand.const (.pointer none)) (.pointer (some (Addr.mk d 0 none))) (.pointer none)) h
 (.bool b1)) ∧
 br (b0 || b1) (R (.int .i64 (2 : Int)) h)
 (HC Tryz.prog 34 (Array.mk [.pointer (some (Addr.mk d 0 none))]) h fun (v2 : Value) (h3 : Heap) =>
 ∃ (b4 : Bool),
 v2 = .bool b4 ∧
 br b4 (R (.int .i64 (8 : Int)) h3)
 (HC Tryz.prog 66 (Array.mk [.pointer (some (Addr.mk d 0 none)), .string s]) h3 fun (v5 : Value) (h6 : Heap) =>
 ∃ (b7 : Bool),
 v5 = .bool b7 ∧
 br b7 (R (.int .i64 (6 : Int)) h6)
 (HC Tryz.prog 96 (Array.mk [.pointer (some (Addr.mk t 0 none))]) h6 fun (v8 : Value) (h9 : Heap) =>
 ∃ (a10 : Option Addr),
 ∃ (k11 : Nat),
 ∃ (k12 : Nat),
 v8 = .slice a10 k11 k12 ∧
 HC Tryz.prog 138 (Array.mk [.slice a10 k11 k12, .int .i64 (512 : Int)]) h9 fun (v13 : Value) (h14 : Heap) =>
 ∃ (v15 : Value),
 v13 = v15 ∧
 HC Tryz.prog 137 (Array.mk [v15]) h14 fun (v16 : Value) (h17 : Heap) =>
 ∃ (a18 : Option Addr),
 ∃ (k19 : Nat),
 ∃ (k20 : Nat),
 v16 = .slice a18 k19 k20 ∧
 HC Tryz.prog 92 (Array.mk [.pointer (some (Addr.mk d 0 none))]) h17 fun (v21 : Value) (h22 : Heap) =>
 ∃ (n23 : Int),
 v21 = .int .i64 n23 ∧
 br (decide ((↑k19 : Int) > n23)) (R (.int .i64 (7 : Int)) h22)
 (∃ (I24 : Int → Int → Heap → Prop),
 ∃ (I25 : Int → Int → Heap → Nat),
 I24 (0 : Int) (0 : Int) h22 ∧
 ∀ (n26 n27 : Int) (h28 : Heap),
 I24 n26 n27 h28 →
 br (decide (n27 < (↑k19 : Int)))
 (∃ (p29 : Addr),
 (a18 = some p29 ∧ (0 : Int) ≤ n27 ∧ n27 < (↑k19 : Int)) ∧
 ∃ (a30 : Option Addr),
 ∃ (k31 : Nat),
 ∃ (k32 : Nat),
 Reads Tryz.prog (Instr.loadAt 146 (.pointer (some (p29.add (n27.toNat * 1))))) h28
 (.slice a30 k31 k32) ∧
 HC Tryz.prog 81
 (Array.mk
 [.pointer (some (Addr.mk d 0 none)), .string s, .int .i64 n27,
 .slice a30 k31 k32])
 h28 fun (v33 : Value) (h34 : Heap) =>
 ∃ (n35 : Int),
 v33 = .int .i64 n35 ∧
 br (n35 != (0 : Int)) (R (.int .i64 n35) h34)
 (I24 n26 (IntKind.i64.wrap (n27 + (1 : Int))) h34 ∧
 I25 n26 (IntKind.i64.wrap (n27 + (1 : Int))) h34 < I25 n26 n27 h28))
 (HC Tryz.prog 83 (Array.mk [.pointer (some (Addr.mk d 0 none)), .string s]) h28
 fun (v36 : Value) (h37 : Heap) => ∃ (n38 : Int), v36 = .int .i64 n38 ∧ R (.int .i64 n38) h37)))))) := by kernel_rfl

theorem vcTbLoad (d : Nat) (s : ByteArray) (h : Heap) (R : Value → Heap → Prop) :
    vcF Tryz.prog Tryz.f68 38 [] [] [.pointer (some ⟨d, 0, none⟩), .string s] h R =
(∃ (I0 : Option Addr → Int → Option Addr → Nat → Nat → Int → Heap → Prop),
 ∃ (I1 : Option Addr → Int → Option Addr → Nat → Nat → Int → Heap → Nat),
 I0 none (0 : Int) none 0 0 (0 : Int) h ∧
 ∀ (a2 : Option Addr) (n3 : Int) (a4 : Option Addr) (k5 k6 : Nat) (n7 : Int) (h8 : Heap),
 I0 a2 n3 a4 k5 k6 n7 h8 →
 br (bif decide (n7 = (0 : Int)) then false else true)
 (HC Tryz.prog 76 (Array.mk [.pointer (some (Addr.mk d 0 none)), .string s]) h8 fun (v9 : Value) (h10 : Heap) =>
 ∃ (n11 : Int),
 v9 = .int .i64 n11 ∧
 br (decide (n7 < n11))
 (HC Tryz.prog 77 (Array.mk [.pointer (some (Addr.mk d 0 none)), .string s, .int .i64 n7]) h10 fun (v12 : Value) (h13 : Heap) =>
 ∃ (a14 : Option Addr),
 ∃ (k15 : Nat),
 ∃ (k16 : Nat),
 ∃ (n17 : Int),
 v12 = .tuple (Array.mk [.slice a14 k15 k16, .int .i64 n17]) ∧
 br (n17 != (0 : Int)) (R (.tuple (Array.mk [.pointer none, .int .i64 n17])) h13)
 (SVC Tryz.prog (Builtin.append_ (Array.mk [146, 146]) 146 (Array.mk [.slice a4 k5 k6, .slice a14 k15 k16])) h13
 fun (v18 : Value) (h19 : Heap) =>
 ∃ (a20 : Option Addr),
 ∃ (k21 : Nat),
 ∃ (k22 : Nat),
 v18 = .slice a20 k21 k22 ∧
 I0 a2 n3 a20 k21 k22 (IntKind.i64.wrap (n7 + (1 : Int))) h19 ∧ I1 a2 n3 a20 k21 k22 (IntKind.i64.wrap (n7 + (1 : Int))) h19 < I1 a2 n3 a4 k5 k6 n7 h8))
 (HC Tryz.prog 113 (Array.mk [.slice a4 k5 k6]) h10 fun (v23 : Value) (h24 : Heap) =>
 ∃ (a25 : Option Addr),
 ∃ (n26 : Int), v23 = .tuple (Array.mk [.pointer a25, .int .i64 n26]) ∧ R (.tuple (Array.mk [.pointer a25, .int .i64 n26])) h24))
 (HC Tryz.prog 77 (Array.mk [.pointer (some (Addr.mk d 0 none)), .string s, .int .i64 n7]) h8 fun (v27 : Value) (h28 : Heap) =>
 ∃ (a29 : Option Addr),
 ∃ (k30 : Nat),
 ∃ (k31 : Nat),
 ∃ (n32 : Int),
 v27 = .tuple (Array.mk [.slice a29 k30 k31, .int .i64 n32]) ∧
 br (n32 != (0 : Int)) (R (.tuple (Array.mk [.pointer none, .int .i64 n32])) h28)
 (SVC Tryz.prog (Builtin.append_ (Array.mk [146, 146]) 146 (Array.mk [.slice a4 k5 k6, .slice a29 k30 k31])) h28
 fun (v33 : Value) (h34 : Heap) =>
 ∃ (a35 : Option Addr),
 ∃ (k36 : Nat),
 ∃ (k37 : Nat),
 v33 = .slice a35 k36 k37 ∧
 I0 a2 n3 a35 k36 k37 (IntKind.i64.wrap (n7 + (1 : Int))) h34 ∧ I1 a2 n3 a35 k36 k37 (IntKind.i64.wrap (n7 + (1 : Int))) h34 < I1 a2 n3 a4 k5 k6 n7 h8))) := by kernel_rfl
end Go.Proofs.YtkhinnchplahlaaGreatDoor
end
