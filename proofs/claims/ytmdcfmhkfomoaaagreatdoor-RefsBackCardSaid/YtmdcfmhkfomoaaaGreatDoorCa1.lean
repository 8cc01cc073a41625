/-
  What a call of each function comes to, as the symbolic run tells it: by the kernel's own reckoning. Conditions: none.
-/
import Derived.Test.YtmdcfmhkfomoaaaGreatDoorVcE
import Derived.Test.YtmdcfmhkfomoaaaGreatDoorProg
import Derived.KernelRfl
set_option linter.unusedVariables false
set_option maxRecDepth 100000
namespace Go.Proofs.YtmdcfmhkfomoaaaGreatDoor
open Go Go.Vc Go.Proofs

theorem vcCNew (s : Nat) (most : Int) (h : Heap) (R : Value → Heap → Prop) :
    vcF Tryz.prog Tryz.f34 28 [] [] [.pointer (some ⟨s, 0, none⟩), .int .i64 most] h R =
(∃ (n0 : Int),
 Reads Tryz.prog (Builtin.max_ (Array.mk [(3 : Nat), (3 : Nat)]) (3 : Nat) (Array.mk [Value.int IntKind.i64 most, Value.int IntKind.i64 (0 : Int)])) h (Value.int IntKind.i64 n0) ∧
 ∃ (n1 : Int),
 Reads Tryz.prog (Builtin.min_ (Array.mk [(3 : Nat), (3 : Nat)]) (3 : Nat) (Array.mk [Value.int IntKind.i64 n0, Value.int IntKind.i64 (1024 : Int)])) h (Value.int IntKind.i64 n1) ∧
 ∃ (p2 : Addr),
 some (Addr.mk (Array.push h (Obj.map (Array.mk []) (0 : Nat))).size (0 : Nat) none) = some p2 ∧
 ∃ (p3 : Addr),
 some (Addr.mk (Array.push h (Obj.map (Array.mk []) (0 : Nat))).size (0 : Nat) none) = some p3 ∧
 ∃ (p4 : Addr),
 some (Addr.mk (Array.push h (Obj.map (Array.mk []) (0 : Nat))).size (0 : Nat) none) = some p4 ∧
 SVC Tryz.prog (Instr.storeAt (78 : Nat) (Value.pointer (some ((p4.add (3 : Nat)).add (3 : Nat)))) (Value.pointer (some (p2.add (3 : Nat)))))
 ((Array.push h (Obj.map (Array.mk []) (0 : Nat))).push
 (Obj.cells
 (Array.mk
 [Value.pointer (some (Addr.mk s (0 : Nat) none)), Value.int IntKind.i64 n1, Value.map (some (Array.size h)), Value.string (ByteArray.mk (Array.mk [])),
 Value.string (ByteArray.mk (Array.mk [])), Value.bool false, Value.pointer none, Value.pointer none, Value.int IntKind.i64 (0 : Int)])
 (82 : Nat)))
 fun (x5 : Unit) (h6 : Heap) =>
 ∃ (p7 : Addr),
 some (Addr.mk (Array.push h (Obj.map (Array.mk []) (0 : Nat))).size (0 : Nat) none) = some p7 ∧
 SVC Tryz.prog (Instr.storeAt (78 : Nat) (Value.pointer (some ((p7.add (3 : Nat)).add (4 : Nat)))) (Value.pointer (some (p3.add (3 : Nat))))) h6 fun (x8 : Unit) (h9 : Heap) =>
 R (Value.pointer (some (Addr.mk (Array.push h (Obj.map (Array.mk []) (0 : Nat))).size (0 : Nat) none))) h9) := by kernel_rfl

theorem vcCGet (c : Nat) (k : ByteArray) (h : Heap) (R : Value → Heap → Prop) :
    vcF Tryz.prog Tryz.f40 61 [] [] [.pointer (some ⟨c, 0, none⟩), .string k] h R =
(∃ (b0 : Bool),
 Reads Tryz.prog (eqSem BinOp.eql (38 : Nat) (Operand.tmp (11 : Nat)) (Operand.const (Value.pointer none)) (Value.pointer (some (Addr.mk c (0 : Nat) none))) (Value.pointer none)) h (Value.bool b0) ∧
 br b0 (R (Value.tuple (Array.mk [Value.string (ByteArray.mk (Array.mk [])), Value.bool false, Value.int IntKind.i64 (2 : Int)])) h)
 (∃ (p1 : Addr),
 some (Addr.mk c (0 : Nat) none) = some p1 ∧
 ∃ (a2 : Option Nat),
 Reads Tryz.prog (Instr.loadAt (77 : Nat) (Value.pointer (some (p1.add (2 : Nat))))) h (Value.map a2) ∧
 ∃ (a3 : Option Addr),
 Reads Tryz.prog (Instr.lookup (77 : Nat) (Value.map a2) (Value.string k) false) h (Value.pointer a3) ∧
 ∃ (b4 : Bool),
 Reads Tryz.prog (eqSem BinOp.neq (78 : Nat) (Operand.tmp (19 : Nat)) (Operand.const (Value.pointer none)) (Value.pointer a3) (Value.pointer none)) h (Value.bool b4) ∧
 br b4
 (∃ (p5 : Addr),
 some (Addr.mk c (0 : Nat) none) = some p5 ∧
 ∃ (n6 : Int),
 Reads Tryz.prog (Instr.loadAt (3 : Nat) (Value.pointer (some (p5.add (8 : Nat))))) h (Value.int IntKind.i64 n6) ∧
 ∃ (p7 : Addr),
 some (Addr.mk c (0 : Nat) none) = some p7 ∧
 SVC Tryz.prog (Instr.storeAt (3 : Nat) (Value.pointer (some (p7.add (8 : Nat)))) (Value.int IntKind.i64 (IntKind.i64.wrap (n6 + (1 : Int))))) h
 fun (x8 : Unit) (h9 : Heap) =>
 HC Tryz.prog (49 : Nat) (Array.mk [Value.pointer a3]) h9 fun (v10 : Value) (h11 : Heap) =>
 v10 = Value.tuple (Array.mk []) ∧
 HC Tryz.prog (50 : Nat) (Array.mk [Value.pointer (some (Addr.mk c (0 : Nat) none)), Value.pointer a3]) h11 fun (v12 : Value) (h13 : Heap) =>
 v12 = Value.tuple (Array.mk []) ∧
 ∃ (p14 : Addr),
 a3 = some p14 ∧
 ∃ (s15 : ByteArray),
 Reads Tryz.prog (Instr.loadAt (9 : Nat) (Value.pointer (some (p14.add (1 : Nat))))) h13 (Value.string s15) ∧
 ∃ (p16 : Addr),
 a3 = some p16 ∧
 ∃ (b17 : Bool),
 Reads Tryz.prog (Instr.loadAt (4 : Nat) (Value.pointer (some (p16.add (2 : Nat))))) h13 (Value.bool b17) ∧
 R (Value.tuple (Array.mk [Value.string s15, Value.bool b17, Value.int IntKind.i64 (0 : Int)])) h13)
 (∃ (p18 : Addr),
 some (Addr.mk c (0 : Nat) none) = some p18 ∧
 ∃ (a19 : Option Addr),
 Reads Tryz.prog (Instr.loadAt (73 : Nat) (Value.pointer (some p18))) h (Value.pointer a19) ∧
 HC Tryz.prog (52 : Nat) (Array.mk [Value.pointer a19, Value.string k]) h fun (v20 : Value) (h21 : Heap) =>
 ∃ (s22 : ByteArray),
 ∃ (b23 : Bool),
 ∃ (n24 : Int),
 v20 = Value.tuple (Array.mk [Value.string s22, Value.bool b23, Value.int IntKind.i64 n24]) ∧
 br (n24 == (0 : Int))
 (HC Tryz.prog (36 : Nat) (Array.mk [Value.pointer (some (Addr.mk c (0 : Nat) none)), Value.string k, Value.string s22, Value.bool b23]) h21
 fun (v25 : Value) (h26 : Heap) =>
 v25 = Value.tuple (Array.mk []) ∧ R (Value.tuple (Array.mk [Value.string s22, Value.bool b23, Value.int IntKind.i64 n24])) h26)
 (R (Value.tuple (Array.mk [Value.string s22, Value.bool b23, Value.int IntKind.i64 n24])) h21)))) := by kernel_rfl

theorem vcCApply (c : Nat) (A : Option Addr) (n m : Nat) (h : Heap) (R : Value → Heap → Prop) :
    vcF Tryz.prog Tryz.f18 38 [] [] [.pointer (some ⟨c, 0, none⟩), .slice A n m] h R =
(∃ (b0 : Bool),
 Reads Tryz.prog (eqSem BinOp.eql (38 : Nat) (Operand.tmp (8 : Nat)) (Operand.const (Value.pointer none)) (Value.pointer (some (Addr.mk c (0 : Nat) none))) (Value.pointer none)) h (Value.bool b0) ∧
 br b0 (R (Value.int IntKind.i64 (2 : Int)) h)
 (∃ (p1 : Addr),
 some (Addr.mk c (0 : Nat) none) = some p1 ∧
 ∃ (a2 : Option Addr),
 Reads Tryz.prog (Instr.loadAt (73 : Nat) (Value.pointer (some p1))) h (Value.pointer a2) ∧
 HC Tryz.prog (35 : Nat) (Array.mk [Value.pointer a2, Value.slice A n m]) h fun (v3 : Value) (h4 : Heap) =>
 ∃ (n5 : Int),
 v3 = Value.int IntKind.i64 n5 ∧
 br (n5 == (0 : Int))
 (∃ (I6 : Int → Heap → Prop),
 ∃ (I7 : Int → Heap → Nat),
 I6 (0 : Int) h4 ∧
 ∀ (n8 : Int) (h9 : Heap),
 I6 n8 h9 →
 br (decide (n8 < (↑n : Int)))
 (∃ (p10 : Addr),
 (A = some p10 ∧ (0 : Int) ≤ n8 ∧ n8 < (↑n : Int)) ∧
 ∃ (s11 : ByteArray),
 ∃ (s12 : ByteArray),
 ∃ (b13 : Bool),
 Reads Tryz.prog (Instr.loadAt (31 : Nat) (Value.pointer (some (p10.add (n8.toNat * (3 : Nat)))))) h9
 (Value.agg (Array.mk [Value.string s11, Value.string s12, Value.bool b13])) ∧
 SVC Tryz.prog
 (Instr.storeAt (31 : Nat) (Value.pointer (some (Addr.mk (Array.size h9) (0 : Nat) none)))
 (Value.agg (Array.mk [Value.string s11, Value.string s12, Value.bool b13])))
 (Array.push h9
 (Obj.cells (Array.mk [Value.string (ByteArray.mk (Array.mk [])), Value.string (ByteArray.mk (Array.mk [])), Value.bool false]) (31 : Nat)))
 fun (x14 : Unit) (h15 : Heap) =>
 ∃ (b16 : Bool),
 Reads Tryz.prog (Instr.loadAt (4 : Nat) (Value.pointer (some ((Addr.mk (Array.size h9) (0 : Nat) none).add (2 : Nat))))) h15 (Value.bool b16) ∧
 br b16
 (SVC Tryz.prog
 (Instr.storeAt (9 : Nat) (Value.pointer (some ((Addr.mk (Array.size h9) (0 : Nat) none).add (1 : Nat))))
 (Value.string (ByteArray.mk (Array.mk []))))
 h15 fun (x17 : Unit) (h18 : Heap) =>
 ∃ (s19 : ByteArray),
 Reads Tryz.prog (Instr.loadAt (9 : Nat) (Value.pointer (some (Addr.mk (Array.size h9) (0 : Nat) none)))) h18 (Value.string s19) ∧
 ∃ (s20 : ByteArray),
 Reads Tryz.prog (Instr.loadAt (9 : Nat) (Value.pointer (some ((Addr.mk (Array.size h9) (0 : Nat) none).add (1 : Nat))))) h18
 (Value.string s20) ∧
 ∃ (b21 : Bool),
 Reads Tryz.prog (Instr.loadAt (4 : Nat) (Value.pointer (some ((Addr.mk (Array.size h9) (0 : Nat) none).add (2 : Nat))))) h18
 (Value.bool b21) ∧
 HC Tryz.prog (36 : Nat)
 (Array.mk [Value.pointer (some (Addr.mk c (0 : Nat) none)), Value.string s19, Value.string s20, Value.bool !b21]) h18
 fun (v22 : Value) (h23 : Heap) =>
 v22 = Value.tuple (Array.mk []) ∧
 I6 (IntKind.i64.wrap (n8 + (1 : Int))) h23 ∧ I7 (IntKind.i64.wrap (n8 + (1 : Int))) h23 < I7 n8 h9)
 (∃ (s24 : ByteArray),
 Reads Tryz.prog (Instr.loadAt (9 : Nat) (Value.pointer (some (Addr.mk (Array.size h9) (0 : Nat) none)))) h15 (Value.string s24) ∧
 ∃ (s25 : ByteArray),
 Reads Tryz.prog (Instr.loadAt (9 : Nat) (Value.pointer (some ((Addr.mk (Array.size h9) (0 : Nat) none).add (1 : Nat))))) h15
 (Value.string s25) ∧
 ∃ (b26 : Bool),
 Reads Tryz.prog (Instr.loadAt (4 : Nat) (Value.pointer (some ((Addr.mk (Array.size h9) (0 : Nat) none).add (2 : Nat))))) h15
 (Value.bool b26) ∧
 HC Tryz.prog (36 : Nat)
 (Array.mk [Value.pointer (some (Addr.mk c (0 : Nat) none)), Value.string s24, Value.string s25, Value.bool !b26]) h15
 fun (v27 : Value) (h28 : Heap) =>
 v27 = Value.tuple (Array.mk []) ∧
 I6 (IntKind.i64.wrap (n8 + (1 : Int))) h28 ∧ I7 (IntKind.i64.wrap (n8 + (1 : Int))) h28 < I7 n8 h9))
 (R (Value.int IntKind.i64 n5) h9))
 (R (Value.int IntKind.i64 n5) h4))) := by kernel_rfl

theorem vcCDrop (c : Nat) (n : Int) (h : Heap) (R : Value → Heap → Prop) :
    vcF Tryz.prog Tryz.f224 2 [] [] [.pointer (some ⟨c, 0, none⟩), .int .i64 n] h R =
(False) := by kernel_rfl

theorem vcCScan (c : Nat) (k : ByteArray) (n : Int) (h : Heap) (R : Value → Heap → Prop) :
    vcF Tryz.prog Tryz.f37 19 [] [] [.pointer (some ⟨c, 0, none⟩), .string k, .int .i64 n] h R =
(∃ (b0 : Bool),
 Reads Tryz.prog (eqSem BinOp.eql (38 : Nat) (Operand.tmp (8 : Nat)) (Operand.const (Value.pointer none)) (Value.pointer (some (Addr.mk c (0 : Nat) none))) (Value.pointer none)) h (Value.bool b0) ∧
 br b0 (R (Value.tuple (Array.mk [Value.slice none (0 : Nat) (0 : Nat), Value.int IntKind.i64 (2 : Int)])) h)
 (∃ (p1 : Addr),
 some (Addr.mk c (0 : Nat) none) = some p1 ∧
 ∃ (a2 : Option Addr),
 Reads Tryz.prog (Instr.loadAt (73 : Nat) (Value.pointer (some p1))) h (Value.pointer a2) ∧
 HC Tryz.prog (51 : Nat) (Array.mk [Value.pointer a2, Value.string k, Value.int IntKind.i64 n]) h fun (v3 : Value) (h4 : Heap) =>
 ∃ (a5 : Option Addr),
 ∃ (k6 : Nat),
 ∃ (k7 : Nat),
 ∃ (n8 : Int), v3 = Value.tuple (Array.mk [Value.slice a5 k6 k7, Value.int IntKind.i64 n8]) ∧ R (Value.tuple (Array.mk [Value.slice a5 k6 k7, Value.int IntKind.i64 n8])) h4)) := by kernel_rfl

theorem vcCOut (e : Nat) (h : Heap) (R : Value → Heap → Prop) :
    vcF Tryz.prog Tryz.f49 22 [] [] [.pointer (some ⟨e, 0, none⟩)] h R =
(∃ (p0 : Addr),
 some (Addr.mk e (0 : Nat) none) = some p0 ∧
 ∃ (a1 : Option Addr),
 Reads Tryz.prog (Instr.loadAt (78 : Nat) (Value.pointer (some (p0.add (3 : Nat))))) h (Value.pointer a1) ∧
 ∃ (p2 : Addr),
 some (Addr.mk e (0 : Nat) none) = some p2 ∧
 ∃ (a3 : Option Addr),
 Reads Tryz.prog (Instr.loadAt (78 : Nat) (Value.pointer (some (p2.add (4 : Nat))))) h (Value.pointer a3) ∧
 ∃ (p4 : Addr),
 some (Addr.mk e (0 : Nat) none) = some p4 ∧
 ∃ (a5 : Option Addr),
 Reads Tryz.prog (Instr.loadAt (78 : Nat) (Value.pointer (some (p4.add (4 : Nat))))) h (Value.pointer a5) ∧
 ∃ (p6 : Addr),
 some (Addr.mk e (0 : Nat) none) = some p6 ∧
 ∃ (a7 : Option Addr),
 Reads Tryz.prog (Instr.loadAt (78 : Nat) (Value.pointer (some (p6.add (3 : Nat))))) h (Value.pointer a7) ∧
 ∃ (p8 : Addr),
 a1 = some p8 ∧
 SVC Tryz.prog (Instr.storeAt (78 : Nat) (Value.pointer (some (p8.add (4 : Nat)))) (Value.pointer a5)) h fun (x9 : Unit) (h10 : Heap) =>
 ∃ (p11 : Addr),
 a3 = some p11 ∧
 SVC Tryz.prog (Instr.storeAt (78 : Nat) (Value.pointer (some (p11.add (3 : Nat)))) (Value.pointer a7)) h10 fun (x12 : Unit) (h13 : Heap) =>
 R (Value.tuple (Array.mk [])) h13) := by kernel_rfl

theorem vcCIn (c e : Nat) (h : Heap) (R : Value → Heap → Prop) :
    vcF Tryz.prog Tryz.f50 30 [] [] [.pointer (some ⟨c, 0, none⟩), .pointer (some ⟨e, 0, none⟩)] h R =
(∃ (p0 : Addr),
 some (Addr.mk c (0 : Nat) none) = some p0 ∧
 ∃ (a1 : Option Addr),
 Reads Tryz.prog (Instr.loadAt (78 : Nat) (Value.pointer (some ((p0.add (3 : Nat)).add (4 : Nat))))) h (Value.pointer a1) ∧
 ∃ (p2 : Addr),
 some (Addr.mk c (0 : Nat) none) = some p2 ∧
 ∃ (p3 : Addr),
 some (Addr.mk e (0 : Nat) none) = some p3 ∧
 SVC Tryz.prog (Instr.storeAt (78 : Nat) (Value.pointer (some (p3.add (4 : Nat)))) (Value.pointer a1)) h fun (x4 : Unit) (h5 : Heap) =>
 ∃ (p6 : Addr),
 some (Addr.mk e (0 : Nat) none) = some p6 ∧
 SVC Tryz.prog (Instr.storeAt (78 : Nat) (Value.pointer (some (p6.add (3 : Nat)))) (Value.pointer (some (p2.add (3 : Nat))))) h5 fun (x7 : Unit) (h8 : Heap) =>
 ∃ (p9 : Addr),
 some (Addr.mk e (0 : Nat) none) = some p9 ∧
 ∃ (a10 : Option Addr),
 Reads Tryz.prog (Instr.loadAt (78 : Nat) (Value.pointer (some (p9.add (4 : Nat))))) h8 (Value.pointer a10) ∧
 ∃ (p11 : Addr),
 a10 = some p11 ∧
 SVC Tryz.prog (Instr.storeAt (78 : Nat) (Value.pointer (some (p11.add (3 : Nat)))) (Value.pointer (some (Addr.mk e (0 : Nat) none)))) h8
 fun (x12 : Unit) (h13 : Heap) =>
 ∃ (p14 : Addr),
 some (Addr.mk c (0 : Nat) none) = some p14 ∧
 SVC Tryz.prog (Instr.storeAt (78 : Nat) (Value.pointer (some ((p14.add (3 : Nat)).add (4 : Nat)))) (Value.pointer (some (Addr.mk e (0 : Nat) none)))) h13
 fun (x15 : Unit) (h16 : Heap) => R (Value.tuple (Array.mk [])) h16) := by kernel_rfl

theorem vcCKeep (c : Nat) (k v : ByteArray) (b : Bool) (h : Heap) (R : Value → Heap → Prop) :
    vcF Tryz.prog Tryz.f36 70 [] [] [.pointer (some ⟨c, 0, none⟩), .string k, .string v, .bool b] h R =
(∃ (p0 : Addr),
 some (Addr.mk c (0 : Nat) none) = some p0 ∧
 ∃ (a1 : Option Nat),
 Reads Tryz.prog (Instr.loadAt (77 : Nat) (Value.pointer (some (p0.add (2 : Nat))))) h (Value.map a1) ∧
 ∃ (a2 : Option Addr),
 Reads Tryz.prog (Instr.lookup (77 : Nat) (Value.map a1) (Value.string k) false) h (Value.pointer a2) ∧
 ∃ (b3 : Bool),
 Reads Tryz.prog (eqSem BinOp.eql (78 : Nat) (Operand.tmp (16 : Nat)) (Operand.const (Value.pointer none)) (Value.pointer a2) (Value.pointer none)) h (Value.bool b3) ∧
 br b3
 (∃ (p4 : Addr),
 some (Addr.mk c (0 : Nat) none) = some p4 ∧
 ∃ (n5 : Int),
 Reads Tryz.prog (Instr.loadAt (3 : Nat) (Value.pointer (some (p4.add (1 : Nat))))) h (Value.int IntKind.i64 n5) ∧
 br (n5 == (0 : Int)) (R (Value.tuple (Array.mk [])) h)
 (∃ (p6 : Addr),
 some (Addr.mk c (0 : Nat) none) = some p6 ∧
 ∃ (a7 : Option Nat),
 Reads Tryz.prog (Instr.loadAt (77 : Nat) (Value.pointer (some (p6.add (2 : Nat))))) h (Value.map a7) ∧
 ∃ (n8 : Int),
 Reads Tryz.prog (Builtin.len_ (Array.mk [(77 : Nat)]) (3 : Nat) (Array.mk [Value.map a7])) h (Value.int IntKind.i64 n8) ∧
 ∃ (p9 : Addr),
 some (Addr.mk c (0 : Nat) none) = some p9 ∧
 ∃ (n10 : Int),
 Reads Tryz.prog (Instr.loadAt (3 : Nat) (Value.pointer (some (p9.add (1 : Nat))))) h (Value.int IntKind.i64 n10) ∧
 br (n8 == n10)
 (∃ (p11 : Addr),
 some (Addr.mk c (0 : Nat) none) = some p11 ∧
 ∃ (a12 : Option Addr),
 Reads Tryz.prog (Instr.loadAt (78 : Nat) (Value.pointer (some ((p11.add (3 : Nat)).add (3 : Nat))))) h (Value.pointer a12) ∧
 HC Tryz.prog (49 : Nat) (Array.mk [Value.pointer a12]) h fun (v13 : Value) (h14 : Heap) =>
 v13 = Value.tuple (Array.mk []) ∧
 ∃ (p15 : Addr),
 some (Addr.mk c (0 : Nat) none) = some p15 ∧
 ∃ (a16 : Option Nat),
 Reads Tryz.prog (Instr.loadAt (77 : Nat) (Value.pointer (some (p15.add (2 : Nat))))) h14 (Value.map a16) ∧
 ∃ (p17 : Addr),
 a12 = some p17 ∧
 ∃ (s18 : ByteArray),
 Reads Tryz.prog (Instr.loadAt (9 : Nat) (Value.pointer (some p17))) h14 (Value.string s18) ∧
 SVC Tryz.prog (Builtin.delete_ (Array.mk [(77 : Nat), (9 : Nat)]) (0 : Nat) (Array.mk [Value.map a16, Value.string s18]))
 h14 fun (v19 : Value) (h20 : Heap) =>
 v19 = Value.tuple (Array.mk []) ∧
 ∃ (p21 : Addr),
 some (Addr.mk c (0 : Nat) none) = some p21 ∧
 ∃ (a22 : Option Nat),
 Reads Tryz.prog (Instr.loadAt (77 : Nat) (Value.pointer (some (p21.add (2 : Nat)))))
 (Array.push h20
 (Obj.cells
 (Array.mk
 [Value.string k, Value.string (ByteArray.mk (Array.mk [])), Value.bool false, Value.pointer none,
 Value.pointer none])
 (80 : Nat)))
 (Value.map a22) ∧
 SVC Tryz.prog
 (Instr.mapUpdate (77 : Nat) (Value.map a22) (Value.string k)
 (Value.pointer (some (Addr.mk (Array.size h20) (0 : Nat) none))))
 (Array.push h20
 (Obj.cells
 (Array.mk
 [Value.string k, Value.string (ByteArray.mk (Array.mk [])), Value.bool false, Value.pointer none,
 Value.pointer none])
 (80 : Nat)))
 fun (x23 : Unit) (h24 : Heap) =>
 ∃ (p25 : Addr),
 some (Addr.mk (Array.size h20) (0 : Nat) none) = some p25 ∧
 SVC Tryz.prog (Instr.storeAt (9 : Nat) (Value.pointer (some (p25.add (1 : Nat)))) (Value.string v)) h24
 fun (x26 : Unit) (h27 : Heap) =>
 ∃ (p28 : Addr),
 some (Addr.mk (Array.size h20) (0 : Nat) none) = some p28 ∧
 SVC Tryz.prog (Instr.storeAt (4 : Nat) (Value.pointer (some (p28.add (2 : Nat)))) (Value.bool b))
 h27 fun (x29 : Unit) (h30 : Heap) =>
 HC Tryz.prog (50 : Nat)
 (Array.mk
 [Value.pointer (some (Addr.mk c (0 : Nat) none)),
 Value.pointer (some (Addr.mk (Array.size h20) (0 : Nat) none))])
 h30 fun (v31 : Value) (h32 : Heap) =>
 v31 = Value.tuple (Array.mk []) ∧ R (Value.tuple (Array.mk [])) h32)
 (∃ (p33 : Addr),
 some (Addr.mk c (0 : Nat) none) = some p33 ∧
 ∃ (a34 : Option Nat),
 Reads Tryz.prog (Instr.loadAt (77 : Nat) (Value.pointer (some (p33.add (2 : Nat)))))
 (Array.push h
 (Obj.cells
 (Array.mk [Value.string k, Value.string (ByteArray.mk (Array.mk [])), Value.bool false, Value.pointer none, Value.pointer none])
 (80 : Nat)))
 (Value.map a34) ∧
 SVC Tryz.prog (Instr.mapUpdate (77 : Nat) (Value.map a34) (Value.string k) (Value.pointer (some (Addr.mk (Array.size h) (0 : Nat) none))))
 (Array.push h
 (Obj.cells
 (Array.mk [Value.string k, Value.string (ByteArray.mk (Array.mk [])), Value.bool false, Value.pointer none, Value.pointer none])
 (80 : Nat)))
 fun (x35 : Unit) (h36 : Heap) =>
 ∃ (p37 : Addr),
 some (Addr.mk (Array.size h) (0 : Nat) none) = some p37 ∧
 SVC Tryz.prog (Instr.storeAt (9 : Nat) (Value.pointer (some (p37.add (1 : Nat)))) (Value.string v)) h36 fun (x38 : Unit) (h39 : Heap) =>
 ∃ (p40 : Addr),
 some (Addr.mk (Array.size h) (0 : Nat) none) = some p40 ∧
 SVC Tryz.prog (Instr.storeAt (4 : Nat) (Value.pointer (some (p40.add (2 : Nat)))) (Value.bool b)) h39
 fun (x41 : Unit) (h42 : Heap) =>
 HC Tryz.prog (50 : Nat)
 (Array.mk [Value.pointer (some (Addr.mk c (0 : Nat) none)), Value.pointer (some (Addr.mk (Array.size h) (0 : Nat) none))]) h42
 fun (v43 : Value) (h44 : Heap) => v43 = Value.tuple (Array.mk []) ∧ R (Value.tuple (Array.mk [])) h44)))
 (HC Tryz.prog (49 : Nat) (Array.mk [Value.pointer a2]) h fun (v45 : Value) (h46 : Heap) =>
 v45 = Value.tuple (Array.mk []) ∧
 ∃ (p47 : Addr),
 a2 = some p47 ∧
 SVC Tryz.prog (Instr.storeAt (9 : Nat) (Value.pointer (some (p47.add (1 : Nat)))) (Value.string v)) h46 fun (x48 : Unit) (h49 : Heap) =>
 ∃ (p50 : Addr),
 a2 = some p50 ∧
 SVC Tryz.prog (Instr.storeAt (4 : Nat) (Value.pointer (some (p50.add (2 : Nat)))) (Value.bool b)) h49 fun (x51 : Unit) (h52 : Heap) =>
 HC Tryz.prog (50 : Nat) (Array.mk [Value.pointer (some (Addr.mk c (0 : Nat) none)), Value.pointer a2]) h52 fun (v53 : Value) (h54 : Heap) =>
 v53 = Value.tuple (Array.mk []) ∧ R (Value.tuple (Array.mk [])) h54)) := by kernel_rfl
end Go.Proofs.YtmdcfmhkfomoaaaGreatDoor
