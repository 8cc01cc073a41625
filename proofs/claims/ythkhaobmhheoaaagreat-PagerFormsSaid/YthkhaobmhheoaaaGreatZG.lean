/-
  Texts of this seat, laid one behind the other: G1 G2 G3 G4 G6. Conditions: none.
-/
import Derived.Test.YthkhaobmhheoaaaGreatVcE
import Derived.Test.YthkhaobmhheoaaaGreatProg
import Derived.KernelRfl
section
set_option linter.unusedVariables false
set_option maxRecDepth 100000
namespace Go.Proofs.YthkhaobmhheoaaaGreat
open Go Go.Vc Go.Proofs

theorem vcReady (d : Nat) (h : Heap) (R : Value → Heap → Prop) :
    vcF Tryz.prog Tryz.f53 11 [] [] [.pointer (some ⟨d, 0, none⟩)] h R =
(∃ (b0 : Bool),
 Reads Tryz.prog (eqSem BinOp.eql (32 : Nat) (Operand.tmp (4 : Nat)) (Operand.const (Value.pointer none)) (Value.pointer (some (Addr.mk d (0 : Nat) none))) (Value.pointer none)) h (Value.bool b0) ∧
 br b0 (R (Value.int IntKind.i64 (2 : Int)) h)
 (∃ (p1 : Addr),
 some (Addr.mk d (0 : Nat) none) = some p1 ∧
 ∃ (b2 : Bool),
 Reads Tryz.prog (Instr.loadAt (4 : Nat) (Value.pointer (some (p1.add (6 : Nat))))) h (Value.bool b2) ∧
 br b2 (R (Value.int IntKind.i64 (8 : Int)) h) (R (Value.int IntKind.i64 (0 : Int)) h))) := by kernel_rfl

theorem vcReady0 (h : Heap) (R : Value → Heap → Prop) :
    vcF Tryz.prog Tryz.f53 11 [] [] [.pointer none] h R =
(∃ (b0 : Bool),
 Reads Tryz.prog (eqSem BinOp.eql (32 : Nat) (Operand.tmp (4 : Nat)) (Operand.const (Value.pointer none)) (Value.pointer none) (Value.pointer none)) h (Value.bool b0) ∧
 br b0 (R (Value.int IntKind.i64 (2 : Int)) h)
 (∃ (p1 : Addr),
 none = some p1 ∧
 ∃ (b2 : Bool),
 Reads Tryz.prog (Instr.loadAt (4 : Nat) (Value.pointer (some (p1.add (6 : Nat))))) h (Value.bool b2) ∧
 br b2 (R (Value.int IntKind.i64 (8 : Int)) h) (R (Value.int IntKind.i64 (0 : Int)) h))) := by kernel_rfl

theorem vcAct (d : Nat) (h : Heap) (R : Value → Heap → Prop) :
    vcF Tryz.prog Tryz.f54 27 [] [] [.pointer (some ⟨d, 0, none⟩)] h R =
(∃ (p0 : Addr),
 some (Addr.mk d (0 : Nat) none) = some p0 ∧
 ∃ (n1 : Int),
 Reads Tryz.prog (Instr.loadAt (3 : Nat) (Value.pointer (some (p0.add (7 : Nat))))) h (Value.int IntKind.i64 n1) ∧
 ∃ (p2 : Addr),
 some (Addr.mk d (0 : Nat) none) = some p2 ∧
 SVC Tryz.prog (Instr.storeAt (3 : Nat) (Value.pointer (some (p2.add (7 : Nat)))) (Value.int IntKind.i64 (IntKind.i64.wrap (n1 + (1 : Int))))) h fun (x3 : Unit) (h4 : Heap) =>
 ∃ (p5 : Addr),
 some (Addr.mk d (0 : Nat) none) = some p5 ∧
 ∃ (n6 : Int),
 Reads Tryz.prog (Instr.loadAt (3 : Nat) (Value.pointer (some (p5.add (8 : Nat))))) h4 (Value.int IntKind.i64 n6) ∧
 br (decide (n6 > (0 : Int)))
 (∃ (p7 : Addr),
 some (Addr.mk d (0 : Nat) none) = some p7 ∧
 ∃ (n8 : Int),
 Reads Tryz.prog (Instr.loadAt (3 : Nat) (Value.pointer (some (p7.add (8 : Nat))))) h4 (Value.int IntKind.i64 n8) ∧
 ∃ (p9 : Addr),
 some (Addr.mk d (0 : Nat) none) = some p9 ∧
 SVC Tryz.prog (Instr.storeAt (3 : Nat) (Value.pointer (some (p9.add (8 : Nat)))) (Value.int IntKind.i64 (IntKind.i64.wrap (n8 - (1 : Int))))) h4
 fun (x10 : Unit) (h11 : Heap) =>
 ∃ (p12 : Addr),
 some (Addr.mk d (0 : Nat) none) = some p12 ∧
 ∃ (n13 : Int),
 Reads Tryz.prog (Instr.loadAt (3 : Nat) (Value.pointer (some (p12.add (8 : Nat))))) h11 (Value.int IntKind.i64 n13) ∧ R (Value.bool (n13 == (0 : Int))) h11)
 (R (Value.bool false) h4)) := by kernel_rfl

theorem vcFree (d : Nat) (h : Heap) (R : Value → Heap → Prop) :
    vcF Tryz.prog Tryz.f24 26 [] [] [.pointer (some ⟨d, 0, none⟩)] h R =
(∃ (b0 : Bool),
 Reads Tryz.prog (eqSem BinOp.eql (32 : Nat) (Operand.tmp (6 : Nat)) (Operand.const (Value.pointer none)) (Value.pointer (some (Addr.mk d (0 : Nat) none))) (Value.pointer none)) h (Value.bool b0) ∧
 br b0 (R (Value.int IntKind.i64 (0 : Int)) h)
 (∃ (p1 : Addr),
 some (Addr.mk d (0 : Nat) none) = some p1 ∧
 ∃ (n2 : Int),
 Reads Tryz.prog (Instr.loadAt (3 : Nat) (Value.pointer (some (p1.add (5 : Nat))))) h (Value.int IntKind.i64 n2) ∧
 ∃ (p3 : Addr),
 some (Addr.mk d (0 : Nat) none) = some p3 ∧
 ∃ (a4 : Option Nat),
 Reads Tryz.prog (Instr.loadAt (91 : Nat) (Value.pointer (some p3))) h (Value.map a4) ∧
 SVC Tryz.prog (Instr.range (91 : Nat) (Value.map a4)) h fun (v5 : Value) (h6 : Heap) =>
 ∃ (a7 : Option Addr),
 v5 = Value.pointer a7 ∧
 ∃ (I8 : Int → Heap → Prop),
 ∃ (I9 : Int → Heap → Nat),
 I8 n2 h6 ∧
 ∀ (n10 : Int) (h11 : Heap),
 I8 n10 h11 →
 SVC Tryz.prog (Instr.next (Value.pointer a7) false (0 : Nat)) h11 fun (v12 : Value) (h13 : Heap) =>
 v12 = Value.tuple (Array.mk [Value.bool false]) ∧ R (Value.int IntKind.i64 n10) h13 ∨
 ∃ (v14 : Value),
 ∃ (v15 : Value),
 v12 = Value.tuple (Array.mk [Value.bool true, v14, v15]) ∧
 ∃ (v16 : Value),
 ∃ (n17 : Int),
 Reads Tryz.prog (Instr.entry (Value.pointer a7)) h13 (Value.tuple (Array.mk [v16, Value.int IntKind.i64 n17])) ∧
 I8 (IntKind.i64.wrap (n10 - n17)) h13 ∧ I9 (IntKind.i64.wrap (n10 - n17)) h13 < I9 n10 h11)) := by kernel_rfl

theorem vcSet (c p : Nat) (s : ByteArray) (i : Int) (pg : Array Value) (h : Heap) (R : Value → Heap → Prop) :
    vcF Tryz.prog Tryz.f55 23 [] [] [.agg #[.map (some c), .map (some p)], .agg #[.string s, .int .i64 i], .agg pg] h R =
(∃ (a0 : Option Nat),
 Reads Tryz.prog (Instr.loadAt (92 : Nat) (Value.pointer (some ((Addr.mk (Array.size h) (0 : Nat) none).add (1 : Nat)))))
 (((Array.push h (Obj.cells (Array.mk [Value.map (some c), Value.map (some p)]) (94 : Nat))).push (Obj.cells (Array.mk [Value.string s, Value.int IntKind.i64 i]) (101 : Nat))).push
 (Obj.cells pg (103 : Nat)))
 (Value.map a0) ∧
 ∃ (s1 : ByteArray),
 ∃ (n2 : Int),
 Reads Tryz.prog (Instr.loadAt (101 : Nat) (Value.pointer (some (Addr.mk (Array.push h (Obj.cells (Array.mk [Value.map (some c), Value.map (some p)]) (94 : Nat))).size (0 : Nat) none))))
 (((Array.push h (Obj.cells (Array.mk [Value.map (some c), Value.map (some p)]) (94 : Nat))).push (Obj.cells (Array.mk [Value.string s, Value.int IntKind.i64 i]) (101 : Nat))).push
 (Obj.cells pg (103 : Nat)))
 (Value.agg (Array.mk [Value.string s1, Value.int IntKind.i64 n2])) ∧
 ∃ (h3 : Array Value),
 Reads Tryz.prog
 (Instr.loadAt (103 : Nat)
 (Value.pointer
 (some
 (Addr.mk
 ((Array.push h (Obj.cells (Array.mk [Value.map (some c), Value.map (some p)]) (94 : Nat))).push
 (Obj.cells (Array.mk [Value.string s, Value.int IntKind.i64 i]) (101 : Nat))).size
 (0 : Nat) none))))
 (((Array.push h (Obj.cells (Array.mk [Value.map (some c), Value.map (some p)]) (94 : Nat))).push (Obj.cells (Array.mk [Value.string s, Value.int IntKind.i64 i]) (101 : Nat))).push
 (Obj.cells pg (103 : Nat)))
 (Value.agg h3) ∧
 SVC Tryz.prog (Instr.mapUpdate (92 : Nat) (Value.map a0) (Value.agg (Array.mk [Value.string s1, Value.int IntKind.i64 n2])) (Value.agg h3))
 (((Array.push h (Obj.cells (Array.mk [Value.map (some c), Value.map (some p)]) (94 : Nat))).push (Obj.cells (Array.mk [Value.string s, Value.int IntKind.i64 i]) (101 : Nat))).push
 (Obj.cells pg (103 : Nat)))
 fun (x4 : Unit) (h5 : Heap) =>
 ∃ (a6 : Option Nat),
 Reads Tryz.prog (Instr.loadAt (91 : Nat) (Value.pointer (some (Addr.mk (Array.size h) (0 : Nat) none)))) h5 (Value.map a6) ∧
 ∃ (s7 : ByteArray),
 Reads Tryz.prog
 (Instr.loadAt (9 : Nat) (Value.pointer (some (Addr.mk (Array.push h (Obj.cells (Array.mk [Value.map (some c), Value.map (some p)]) (94 : Nat))).size (0 : Nat) none)))) h5
 (Value.string s7) ∧
 ∃ (a8 : Option Nat),
 Reads Tryz.prog (Instr.loadAt (91 : Nat) (Value.pointer (some (Addr.mk (Array.size h) (0 : Nat) none)))) h5 (Value.map a8) ∧
 ∃ (s9 : ByteArray),
 Reads Tryz.prog
 (Instr.loadAt (9 : Nat)
 (Value.pointer (some (Addr.mk (Array.push h (Obj.cells (Array.mk [Value.map (some c), Value.map (some p)]) (94 : Nat))).size (0 : Nat) none))))
 h5 (Value.string s9) ∧
 ∃ (n10 : Int),
 Reads Tryz.prog (Instr.lookup (91 : Nat) (Value.map a8) (Value.string s9) false) h5 (Value.int IntKind.i64 n10) ∧
 ∃ (n11 : Int),
 Reads Tryz.prog
 (Instr.loadAt (3 : Nat)
 (Value.pointer
 (some ((Addr.mk (Array.push h (Obj.cells (Array.mk [Value.map (some c), Value.map (some p)]) (94 : Nat))).size (0 : Nat) none).add (1 : Nat)))))
 h5 (Value.int IntKind.i64 n11) ∧
 ∃ (n12 : Int),
 Reads Tryz.prog
 (Builtin.max_ (Array.mk [(3 : Nat), (3 : Nat)]) (3 : Nat)
 (Array.mk [Value.int IntKind.i64 n10, Value.int IntKind.i64 (IntKind.i64.wrap (n11 + (1 : Int)))]))
 h5 (Value.int IntKind.i64 n12) ∧
 SVC Tryz.prog (Instr.mapUpdate (91 : Nat) (Value.map a6) (Value.string s7) (Value.int IntKind.i64 n12)) h5 fun (x13 : Unit) (h14 : Heap) =>
 R (Value.tuple (Array.mk [])) h14) := by kernel_rfl

theorem vcClone (c p : Nat) (h : Heap) (R : Value → Heap → Prop) :
    vcF Tryz.prog Tryz.f52 10 [] [] [.agg #[.map (some c), .map (some p)]] h R =
(∃ (I0 : Heap → Prop),
 I0 ((Array.push h (Obj.cells (Array.mk [Value.map (some c), Value.map (some p)]) (94 : Nat))).push (Obj.cells (Array.mk [Value.map none, Value.map none]) (94 : Nat))) ∧
 ∃ (a1 : Option Nat),
 Reads Tryz.prog (Instr.loadAt (91 : Nat) (Value.pointer (some (Addr.mk (Array.size h) (0 : Nat) none))))
 ((Array.push h (Obj.cells (Array.mk [Value.map (some c), Value.map (some p)]) (94 : Nat))).push (Obj.cells (Array.mk [Value.map none, Value.map none]) (94 : Nat))) (Value.map a1) ∧
 HC Tryz.prog (87 : Nat) (Array.mk [Value.map a1])
 ((Array.push h (Obj.cells (Array.mk [Value.map (some c), Value.map (some p)]) (94 : Nat))).push (Obj.cells (Array.mk [Value.map none, Value.map none]) (94 : Nat)))
 fun (v2 : Value) (h3 : Heap) =>
 ∃ (a4 : Option Nat),
 v2 = Value.map a4 ∧
 I0 h3 ∧
 ∃ (a5 : Option Nat),
 (∀ (h6 : Heap), I0 h6 → Reads Tryz.prog (Instr.loadAt (92 : Nat) (Value.pointer (some ((Addr.mk (Array.size h) (0 : Nat) none).add (1 : Nat))))) h6 (Value.map a5)) ∧
 HC Tryz.prog (88 : Nat) (Array.mk [Value.map a5]) h3 fun (v7 : Value) (h8 : Heap) =>
 ∃ (a9 : Option Nat),
 v7 = Value.map a9 ∧
 SVC Tryz.prog
 (Instr.storeAt (94 : Nat) (Value.pointer (some (Addr.mk (Array.push h (Obj.cells (Array.mk [Value.map (some c), Value.map (some p)]) (94 : Nat))).size (0 : Nat) none)))
 (Value.agg (Array.mk [Value.map a4, Value.map a9])))
 h8 fun (x10 : Unit) (h11 : Heap) =>
 ∃ (a12 : Option Nat),
 ∃ (a13 : Option Nat),
 Reads Tryz.prog (loadVar (94 : Nat) (Addr.mk (Array.push h (Obj.cells (Array.mk [Value.map (some c), Value.map (some p)]) (94 : Nat))).size (0 : Nat) none)) h11
 (Value.agg (Array.mk [Value.map a12, Value.map a13])) ∧
 R (Value.agg (Array.mk [Value.map a12, Value.map a13])) h11) := by kernel_rfl

theorem vcCutS (c p : Nat) (s : ByteArray) (n : Int) (h : Heap) (R : Value → Heap → Prop) :
    vcF Tryz.prog Tryz.f90 30 [] [] [.agg #[.map (some c), .map (some p)], .string s, .int .i64 n] h R =
(∃ (I0 : Int → Heap → Prop),
 ∃ (I1 : Int → Heap → Nat),
 I0 n (Array.push h (Obj.cells (Array.mk [Value.map (some c), Value.map (some p)]) (94 : Nat))) ∧
 ∀ (n2 : Int) (h3 : Heap),
 I0 n2 h3 →
 ∃ (a4 : Option Nat),
 Reads Tryz.prog (Instr.loadAt (91 : Nat) (Value.pointer (some (Addr.mk (Array.size h) (0 : Nat) none)))) h3 (Value.map a4) ∧
 ∃ (n5 : Int),
 Reads Tryz.prog (Instr.lookup (91 : Nat) (Value.map a4) (Value.string s) false) h3 (Value.int IntKind.i64 n5) ∧
 br (decide (n2 < n5))
 (∃ (a6 : Option Nat),
 Reads Tryz.prog (Instr.loadAt (92 : Nat) (Value.pointer (some ((Addr.mk (Array.size h) (0 : Nat) none).add (1 : Nat))))) h3 (Value.map a6) ∧
 SVC Tryz.prog (Builtin.delete_ (Array.mk [(92 : Nat), (101 : Nat)]) (0 : Nat) (Array.mk [Value.map a6, Value.agg (Array.mk [Value.string s, Value.int IntKind.i64 n2])])) h3
 fun (v7 : Value) (h8 : Heap) => v7 = Value.tuple (Array.mk []) ∧ I0 (IntKind.i64.wrap (n2 + (1 : Int))) h8 ∧ I1 (IntKind.i64.wrap (n2 + (1 : Int))) h8 < I1 n2 h3)
 (∃ (a9 : Option Nat),
 Reads Tryz.prog (Instr.loadAt (91 : Nat) (Value.pointer (some (Addr.mk (Array.size h) (0 : Nat) none)))) h3 (Value.map a9) ∧
 ∃ (a10 : Option Nat),
 Reads Tryz.prog (Instr.loadAt (91 : Nat) (Value.pointer (some (Addr.mk (Array.size h) (0 : Nat) none)))) h3 (Value.map a10) ∧
 ∃ (n11 : Int),
 Reads Tryz.prog (Instr.lookup (91 : Nat) (Value.map a10) (Value.string s) false) h3 (Value.int IntKind.i64 n11) ∧
 ∃ (n12 : Int),
 Reads Tryz.prog (Builtin.min_ (Array.mk [(3 : Nat), (3 : Nat)]) (3 : Nat) (Array.mk [Value.int IntKind.i64 n11, Value.int IntKind.i64 n])) h3
 (Value.int IntKind.i64 n12) ∧
 SVC Tryz.prog (Instr.mapUpdate (91 : Nat) (Value.map a9) (Value.string s) (Value.int IntKind.i64 n12)) h3 fun (x13 : Unit) (h14 : Heap) =>
 R (Value.tuple (Array.mk [])) h14)) := by kernel_rfl

theorem vcMove (c p : Nat) (a b : ByteArray) (h : Heap) (R : Value → Heap → Prop) :
    vcF Tryz.prog Tryz.f114 51 [] [] [.agg #[.map (some c), .map (some p)], .string a, .string b] h R =
(∃ (a0 : Option Nat),
 ∃ (a1 : Option Nat),
 Reads Tryz.prog (Instr.loadAt (94 : Nat) (Value.pointer (some (Addr.mk (Array.size h) (0 : Nat) none)))) (Array.push h (Obj.cells (Array.mk [Value.map (some c), Value.map (some p)]) (94 : Nat)))
 (Value.agg (Array.mk [Value.map a0, Value.map a1])) ∧
 HC Tryz.prog (90 : Nat) (Array.mk [Value.agg (Array.mk [Value.map a0, Value.map a1]), Value.string b, Value.int IntKind.i64 (0 : Int)])
 (Array.push h (Obj.cells (Array.mk [Value.map (some c), Value.map (some p)]) (94 : Nat))) fun (v2 : Value) (h3 : Heap) =>
 v2 = Value.tuple (Array.mk []) ∧
 ∃ (a4 : Option Nat),
 Reads Tryz.prog (Instr.loadAt (91 : Nat) (Value.pointer (some (Addr.mk (Array.size h) (0 : Nat) none)))) h3 (Value.map a4) ∧
 ∃ (n5 : Int),
 Reads Tryz.prog (Instr.lookup (91 : Nat) (Value.map a4) (Value.string a) false) h3 (Value.int IntKind.i64 n5) ∧
 ∃ (I6 : Int → Heap → Prop),
 ∃ (I7 : Int → Heap → Nat),
 I6 (0 : Int) h3 ∧
 ∀ (n8 : Int) (h9 : Heap),
 I6 n8 h9 →
 br (decide (n8 < n5))
 (∃ (a10 : Option Nat),
 Reads Tryz.prog (Instr.loadAt (92 : Nat) (Value.pointer (some ((Addr.mk (Array.size h) (0 : Nat) none).add (1 : Nat))))) h9 (Value.map a10) ∧
 ∃ (h11 : Array Value),
 ∃ (b12 : Bool),
 Reads Tryz.prog (Instr.lookup (92 : Nat) (Value.map a10) (Value.agg (Array.mk [Value.string a, Value.int IntKind.i64 n8])) true) h9
 (Value.tuple (Array.mk [Value.agg h11, Value.bool b12])) ∧
 ∃ (h13 : Array Value),
 IsZ Tryz.prog (103 : Nat) h13 ∧
 SVC Tryz.prog (Instr.storeAt (103 : Nat) (Value.pointer (some (Addr.mk (Array.size h9) (0 : Nat) none))) (Value.agg h11))
 (Array.push h9 (Obj.cells h13 (103 : Nat))) fun (x14 : Unit) (h15 : Heap) =>
 br b12
 (∃ (a16 : Option Nat),
 Reads Tryz.prog (Instr.loadAt (92 : Nat) (Value.pointer (some ((Addr.mk (Array.size h) (0 : Nat) none).add (1 : Nat))))) h15 (Value.map a16) ∧
 ∃ (h17 : Array Value),
 Reads Tryz.prog (Instr.loadAt (103 : Nat) (Value.pointer (some (Addr.mk (Array.size h9) (0 : Nat) none)))) h15 (Value.agg h17) ∧
 SVC Tryz.prog (Instr.mapUpdate (92 : Nat) (Value.map a16) (Value.agg (Array.mk [Value.string b, Value.int IntKind.i64 n8])) (Value.agg h17)) h15
 fun (x18 : Unit) (h19 : Heap) =>
 ∃ (a20 : Option Nat),
 Reads Tryz.prog (Instr.loadAt (92 : Nat) (Value.pointer (some ((Addr.mk (Array.size h) (0 : Nat) none).add (1 : Nat))))) h19
 (Value.map a20) ∧
 SVC Tryz.prog
 (Builtin.delete_ (Array.mk [(92 : Nat), (101 : Nat)]) (0 : Nat)
 (Array.mk [Value.map a20, Value.agg (Array.mk [Value.string a, Value.int IntKind.i64 n8])]))
 h19 fun (v21 : Value) (h22 : Heap) =>
 v21 = Value.tuple (Array.mk []) ∧ I6 (IntKind.i64.wrap (n8 + (1 : Int))) h22 ∧ I7 (IntKind.i64.wrap (n8 + (1 : Int))) h22 < I7 n8 h9)
 (I6 (IntKind.i64.wrap (n8 + (1 : Int))) h15 ∧ I7 (IntKind.i64.wrap (n8 + (1 : Int))) h15 < I7 n8 h9))
 (∃ (a23 : Option Nat),
 Reads Tryz.prog (Instr.loadAt (91 : Nat) (Value.pointer (some (Addr.mk (Array.size h) (0 : Nat) none)))) h9 (Value.map a23) ∧
 ∃ (a24 : Option Nat),
 Reads Tryz.prog (Instr.loadAt (91 : Nat) (Value.pointer (some (Addr.mk (Array.size h) (0 : Nat) none)))) h9 (Value.map a24) ∧
 ∃ (n25 : Int),
 Reads Tryz.prog (Instr.lookup (91 : Nat) (Value.map a24) (Value.string a) false) h9 (Value.int IntKind.i64 n25) ∧
 SVC Tryz.prog (Instr.mapUpdate (91 : Nat) (Value.map a23) (Value.string b) (Value.int IntKind.i64 n25)) h9 fun (x26 : Unit) (h27 : Heap) =>
 ∃ (a28 : Option Nat),
 Reads Tryz.prog (Instr.loadAt (91 : Nat) (Value.pointer (some (Addr.mk (Array.size h) (0 : Nat) none)))) h27 (Value.map a28) ∧
 SVC Tryz.prog (Builtin.delete_ (Array.mk [(91 : Nat), (9 : Nat)]) (0 : Nat) (Array.mk [Value.map a28, Value.string a])) h27
 fun (v29 : Value) (h30 : Heap) => v29 = Value.tuple (Array.mk []) ∧ R (Value.tuple (Array.mk [])) h30)) := by kernel_rfl

theorem vcNew (room : Int) (h : Heap) (R : Value → Heap → Prop) :
    vcF Tryz.prog Tryz.f16 15 [] [] [.int .i64 room] h R =
(SVC Tryz.prog
 (Instr.storeAt (94 : Nat) (Value.pointer (some (Addr.mk ((Array.push h (Obj.map (Array.mk []) (0 : Nat))).push (Obj.map (Array.mk []) (0 : Nat))).size (0 : Nat) none)))
 (Value.agg (Array.mk [Value.map (some (Array.size h)), Value.map (some (Array.push h (Obj.map (Array.mk []) (0 : Nat))).size)])))
 (((Array.push h (Obj.map (Array.mk []) (0 : Nat))).push (Obj.map (Array.mk []) (0 : Nat))).push (Obj.cells (Array.mk [Value.map none, Value.map none]) (94 : Nat))) fun (x0 : Unit) (h1 : Heap) =>
 ∃ (I2 : Heap → Prop),
 I2 h1 ∧
 ∃ (a3 : Option Nat),
 ∃ (a4 : Option Nat),
 (∀ (h5 : Heap),
 I2 h5 →
 Reads Tryz.prog (Instr.loadAt (94 : Nat) (Value.pointer (some (Addr.mk ((Array.push h (Obj.map (Array.mk []) (0 : Nat))).push (Obj.map (Array.mk []) (0 : Nat))).size (0 : Nat) none))))
 h5 (Value.agg (Array.mk [Value.map a3, Value.map a4]))) ∧
 ∃ (a6 : Option Nat),
 ∃ (a7 : Option Nat),
 Reads Tryz.prog (Instr.loadAt (94 : Nat) (Value.pointer (some (Addr.mk ((Array.push h (Obj.map (Array.mk []) (0 : Nat))).push (Obj.map (Array.mk []) (0 : Nat))).size (0 : Nat) none))))
 h1 (Value.agg (Array.mk [Value.map a6, Value.map a7])) ∧
 HC Tryz.prog (52 : Nat) (Array.mk [Value.agg (Array.mk [Value.map a6, Value.map a7])]) h1 fun (v8 : Value) (h9 : Heap) =>
 ∃ (a10 : Option Nat),
 ∃ (a11 : Option Nat),
 v8 = Value.agg (Array.mk [Value.map a10, Value.map a11]) ∧
 I2 h9 ∧
 ∃ (n12 : Int),
 (∀ (h13 : Heap),
 I2 h13 →
 Reads Tryz.prog (Builtin.max_ (Array.mk [(3 : Nat), (3 : Nat)]) (3 : Nat) (Array.mk [Value.int IntKind.i64 room, Value.int IntKind.i64 (0 : Int)])) h13
 (Value.int IntKind.i64 n12)) ∧
 ∃ (n14 : Int),
 (∀ (h15 : Heap),
 I2 h15 →
 Reads Tryz.prog (Builtin.min_ (Array.mk [(3 : Nat), (3 : Nat)]) (3 : Nat) (Array.mk [Value.int IntKind.i64 n12, Value.int IntKind.i64 (4096 : Int)])) h15
 (Value.int IntKind.i64 n14)) ∧
 R (Value.pointer (some (Addr.mk (Array.size h9) (0 : Nat) none)))
 (Array.push h9
 (Obj.cells
 (Array.mk
 [Value.map a3, Value.map a4, Value.map a10, Value.map a11, Value.slice none (0 : Nat) (0 : Nat), Value.int IntKind.i64 n14, Value.bool false,
 Value.int IntKind.i64 (0 : Int), Value.int IntKind.i64 (0 : Int), Value.int IntKind.u64 (0 : Int)])
 (98 : Nat)))) := by kernel_rfl

theorem vcWrite (d : Nat) (s : ByteArray) (i : Int) (A : Option Addr) (n c : Nat) (h : Heap) (R : Value → Heap → Prop) :
    vcF Tryz.prog Tryz.f17 82 [11] [] [.pointer (some ⟨d, 0, none⟩), .string s, .int .i64 i, .slice A n c] h R =
(HC Tryz.prog (53 : Nat) (Array.mk [Value.pointer (some (Addr.mk d (0 : Nat) none))]) h fun (v0 : Value) (h1 : Heap) =>
 ∃ (n2 : Int),
 v0 = Value.int IntKind.i64 n2 ∧
 br (n2 != (0 : Int)) (R (Value.int IntKind.i64 n2) h1)
 (∃ (p3 : Addr),
 some (Addr.mk d (0 : Nat) none) = some p3 ∧
 ∃ (a4 : Option Nat),
 Reads Tryz.prog (Instr.loadAt (91 : Nat) (Value.pointer (some p3))) h1 (Value.map a4) ∧
 ∃ (n5 : Int),
 Reads Tryz.prog (Instr.lookup (91 : Nat) (Value.map a4) (Value.string s) false) h1 (Value.int IntKind.i64 n5) ∧
 ∃ (I6 : Int → Heap → Prop),
 br (decide ((↑n : Int) > (512 : Int))) (R (Value.int IntKind.i64 (3 : Int)) h1)
 (br (decide (i < (0 : Int)) || decide (i > n5)) (R (Value.int IntKind.i64 (1 : Int)) h1)
 (br (decide (i = n5))
 (HC Tryz.prog (24 : Nat) (Array.mk [Value.pointer (some (Addr.mk d (0 : Nat) none))]) h1 fun (v7 : Value) (h8 : Heap) =>
 ∃ (n9 : Int), v7 = Value.int IntKind.i64 n9 ∧ br (decide (n9 < (1 : Int))) (R (Value.int IntKind.i64 (7 : Int)) h8) (I6 (0 : Int) h8))
 (I6 (0 : Int) h1))) ∧
 ∀ (n10 : Int) (h11 : Heap),
 I6 n10 h11 →
 HC Tryz.prog (54 : Nat) (Array.mk [Value.pointer (some (Addr.mk d (0 : Nat) none))]) h11 fun (v12 : Value) (h13 : Heap) =>
 ∃ (b14 : Bool),
 v12 = Value.bool b14 ∧
 ∃ (h15 : Array Value),
 Blt Tryz.prog (105 : Nat) [((0 : Nat), Value.agg (Array.mk [Value.string s, Value.int IntKind.i64 i]))] h15 ∧
 ∃ (h16 : Array Value),
 IsZ Tryz.prog (105 : Nat) h16 ∧
 SVC Tryz.prog (Instr.storeAt (105 : Nat) (Value.pointer (some (Addr.mk (Array.size h13) (0 : Nat) none))) (Value.agg h15))
 (Array.push h13 (Obj.cells h16 (105 : Nat))) fun (x17 : Unit) (h18 : Heap) =>
 ((0 : Int) ≤ (0 : Int) ∧ (0 : Int) ≤ (↑(512 : Nat) : Int) ∧ (↑(512 : Nat) : Int) ≤ (↑(512 : Nat) : Int) ∧ (↑(512 : Nat) : Int) ≤ (↑(512 : Nat) : Int)) ∧
 SVC Tryz.prog
 (Builtin.copy_ (Array.mk [(22 : Nat), (22 : Nat)]) (3 : Nat)
 (Array.mk
 [Value.slice (subA (some ((Addr.mk (Array.size h13) (0 : Nat) none).add (2 : Nat))) (0 : Nat) (512 : Nat) (1 : Nat)) (512 : Nat) (512 : Nat),
 Value.slice A n c]))
 h18 fun (v19 : Value) (h20 : Heap) =>
 ∃ (n21 : Int),
 v19 = Value.int IntKind.i64 n21 ∧
 ∃ (p22 : Addr),
 some (Addr.mk d (0 : Nat) none) = some p22 ∧
 ∃ (a23 : Option Nat),
 ∃ (a24 : Option Nat),
 Reads Tryz.prog (Instr.loadAt (94 : Nat) (Value.pointer (some p22))) h20 (Value.agg (Array.mk [Value.map a23, Value.map a24])) ∧
 ∃ (s25 : ByteArray),
 ∃ (n26 : Int),
 Reads Tryz.prog (Instr.loadAt (101 : Nat) (Value.pointer (some (Addr.mk (Array.size h13) (0 : Nat) none)))) h20
 (Value.agg (Array.mk [Value.string s25, Value.int IntKind.i64 n26])) ∧
 ∃ (h27 : Array Value),
 Reads Tryz.prog (Instr.loadAt (103 : Nat) (Value.pointer (some ((Addr.mk (Array.size h13) (0 : Nat) none).add (2 : Nat))))) h20
 (Value.agg h27) ∧
 HC Tryz.prog (55 : Nat)
 (Array.mk
 [Value.agg (Array.mk [Value.map a23, Value.map a24]), Value.agg (Array.mk [Value.string s25, Value.int IntKind.i64 n26]),
 Value.agg h27])
 h20 fun (v28 : Value) (h29 : Heap) =>
 v28 = Value.tuple (Array.mk []) ∧
 ∃ (I30 : Heap → Prop),
 I30 h29 ∧
 ∃ (p31 : Addr),
 some (Addr.mk d (0 : Nat) none) = some p31 ∧
 ∃ (a32 : Option Addr),
 ∃ (k33 : Nat),
 ∃ (k34 : Nat),
 (∀ (h35 : Heap),
 I30 h35 →
 Reads Tryz.prog (Instr.loadAt (96 : Nat) (Value.pointer (some (p31.add (4 : Nat))))) h35
 (Value.slice a32 k33 k34)) ∧
 ∃ (h36 : Array Value),
 Reads Tryz.prog
 (Instr.loadAt (105 : Nat) (Value.pointer (some (Addr.mk (Array.size h13) (0 : Nat) none)))) h29
 (Value.agg h36) ∧
 SVC Tryz.prog (Instr.buildSlice (96 : Nat) (1 : Nat) (Array.mk [((0 : Nat), Value.agg h36)])) h29
 fun (v37 : Value) (h38 : Heap) =>
 ∃ (a39 : Option Addr),
 ∃ (k40 : Nat),
 ∃ (k41 : Nat),
 v37 = Value.slice a39 k40 k41 ∧
 I30 h38 ∧
 SVC Tryz.prog
 (Builtin.append_ (Array.mk [(96 : Nat), (96 : Nat)]) (96 : Nat)
 (Array.mk [Value.slice a32 k33 k34, Value.slice a39 k40 k41]))
 h38 fun (v42 : Value) (h43 : Heap) =>
 ∃ (a44 : Option Addr),
 ∃ (k45 : Nat),
 ∃ (k46 : Nat),
 v42 = Value.slice a44 k45 k46 ∧
 ∃ (p47 : Addr),
 some (Addr.mk d (0 : Nat) none) = some p47 ∧
 SVC Tryz.prog
 (Instr.storeAt (96 : Nat) (Value.pointer (some (p47.add (4 : Nat))))
 (Value.slice a44 k45 k46))
 h43 fun (x48 : Unit) (h49 : Heap) =>
 br b14
 (∃ (p50 : Addr),
 some (Addr.mk d (0 : Nat) none) = some p50 ∧
 ∃ (n51 : Int),
 Reads Tryz.prog
 (Instr.loadAt (45 : Nat)
 (Value.pointer (some (p50.add (9 : Nat)))))
 h49 (Value.int IntKind.u64 n51) ∧
 HC Tryz.prog (31 : Nat)
 (Array.mk
 [Value.pointer (some (Addr.mk d (0 : Nat) none)),
 Value.int IntKind.u64 n51])
 h49 fun (v52 : Value) (h53 : Heap) =>
 v52 = Value.tuple (Array.mk []) ∧
 R (Value.int IntKind.i64 (8 : Int)) h53)
 (R (Value.int IntKind.i64 (0 : Int)) h49))) := by kernel_rfl

theorem vcRead (d : Nat) (s : ByteArray) (i : Int) (h : Heap) (R : Value → Heap → Prop) :
    vcF Tryz.prog Tryz.f94 38 [] [] [.pointer (some ⟨d, 0, none⟩), .string s, .int .i64 i] h R =
(HC Tryz.prog (53 : Nat) (Array.mk [Value.pointer (some (Addr.mk d (0 : Nat) none))]) h fun (v0 : Value) (h1 : Heap) =>
 ∃ (n2 : Int),
 v0 = Value.int IntKind.i64 n2 ∧
 br (n2 != (0 : Int)) (R (Value.tuple (Array.mk [Value.slice none (0 : Nat) (0 : Nat), Value.int IntKind.i64 n2])) h1)
 (∃ (p3 : Addr),
 ((!decide (i < (0 : Int))) = true → some (Addr.mk d (0 : Nat) none) = some p3) ∧
 ∃ (a4 : Option Nat),
 ((!decide (i < (0 : Int))) = true → Reads Tryz.prog (Instr.loadAt (91 : Nat) (Value.pointer (some p3))) h1 (Value.map a4)) ∧
 ∃ (n5 : Int),
 ((!decide (i < (0 : Int))) = true → Reads Tryz.prog (Instr.lookup (91 : Nat) (Value.map a4) (Value.string s) false) h1 (Value.int IntKind.i64 n5)) ∧
 br (decide (i < (0 : Int)) || decide (i ≥ n5)) (R (Value.tuple (Array.mk [Value.slice none (0 : Nat) (0 : Nat), Value.int IntKind.i64 (5 : Int)])) h1)
 (∃ (p6 : Addr),
 some (Addr.mk d (0 : Nat) none) = some p6 ∧
 ∃ (a7 : Option Nat),
 Reads Tryz.prog (Instr.loadAt (92 : Nat) (Value.pointer (some (p6.add (1 : Nat))))) h1 (Value.map a7) ∧
 ∃ (h8 : Array Value),
 Reads Tryz.prog (Instr.lookup (92 : Nat) (Value.map a7) (Value.agg (Array.mk [Value.string s, Value.int IntKind.i64 i])) false) h1 (Value.agg h8) ∧
 ∃ (h9 : Array Value),
 IsZ Tryz.prog (103 : Nat) h9 ∧
 SVC Tryz.prog (Instr.storeAt (103 : Nat) (Value.pointer (some (Addr.mk (Array.size h1) (0 : Nat) none))) (Value.agg h8))
 (Array.push h1 (Obj.cells h9 (103 : Nat))) fun (x10 : Unit) (h11 : Heap) =>
 ((0 : Int) ≤ (0 : Int) ∧ (0 : Int) ≤ (↑(512 : Nat) : Int) ∧ (↑(512 : Nat) : Int) ≤ (↑(512 : Nat) : Int) ∧ (↑(512 : Nat) : Int) ≤ (↑(512 : Nat) : Int)) ∧
 R
 (Value.tuple
 (Array.mk
 [Value.slice (subA (some (Addr.mk (Array.size h1) (0 : Nat) none)) (0 : Nat) (512 : Nat) (1 : Nat)) (512 : Nat) (512 : Nat),
 Value.int IntKind.i64 (0 : Int)]))
 h11))) := by kernel_rfl
end Go.Proofs.YthkhaobmhheoaaaGreat
end

section
set_option linter.unusedVariables false
set_option maxRecDepth 100000
namespace Go.Proofs.YthkhaobmhheoaaaGreat
open Go Go.Vc Go.Proofs

theorem vcOff (d : Nat) (keep : Int) (h : Heap) (R : Value → Heap → Prop) :
    vcF Tryz.prog Tryz.f31 83 [] [] [.pointer (some ⟨d, 0, none⟩), .int .u64 keep] h R =
(HC Tryz.prog (53 : Nat) (Array.mk [Value.pointer (some (Addr.mk d (0 : Nat) none))]) h fun (v0 : Value) (h1 : Heap) =>
 ∃ (n2 : Int),
 v0 = Value.int IntKind.i64 n2 ∧
 br (n2 != (0 : Int)) (R (Value.tuple (Array.mk [])) h1)
 (∃ (p3 : Addr),
 some (Addr.mk d (0 : Nat) none) = some p3 ∧
 ∃ (a4 : Option Addr),
 ∃ (k5 : Nat),
 ∃ (k6 : Nat),
 Reads Tryz.prog (Instr.loadAt (96 : Nat) (Value.pointer (some (p3.add (4 : Nat))))) h1 (Value.slice a4 k5 k6) ∧
 ∃ (I7 : Int → Heap → Prop),
 ∃ (I8 : Int → Heap → Nat),
 I7 (0 : Int) h1 ∧
 ∀ (n9 : Int) (h10 : Heap),
 I7 n9 h10 →
 br (decide (n9 < (↑k5 : Int)))
 (∃ (p11 : Addr),
 (a4 = some p11 ∧ (0 : Int) ≤ n9 ∧ n9 < (↑k5 : Int)) ∧
 ∃ (h12 : Array Value),
 Reads Tryz.prog (Instr.loadAt (105 : Nat) (Value.pointer (some (p11.add (n9.toNat * (514 : Nat)))))) h10 (Value.agg h12) ∧
 ∃ (h13 : Array Value),
 IsZ Tryz.prog (105 : Nat) h13 ∧
 SVC Tryz.prog (Instr.storeAt (105 : Nat) (Value.pointer (some (Addr.mk (Array.size h10) (0 : Nat) none))) (Value.agg h12))
 (Array.push h10 (Obj.cells h13 (105 : Nat))) fun (x14 : Unit) (h15 : Heap) =>
 (64 : Int) ≠ (0 : Int) ∧
 (0 : Int) ≤ n9.tmod (64 : Int) ∧
 br
 (IntKind.u64.wrap
 (↑(BitVec.ofInt (64 : Nat) (keep.fdiv ((2 : Int) ^ min (n9.tmod (64 : Int)).toNat (64 : Nat))) &&& BitVec.ofInt (64 : Nat) (1 : Int)).toNat :
 Int) ==
 (1 : Int))
 (∃ (p16 : Addr),
 some (Addr.mk d (0 : Nat) none) = some p16 ∧
 ∃ (a17 : Option Nat),
 ∃ (a18 : Option Nat),
 Reads Tryz.prog (Instr.loadAt (94 : Nat) (Value.pointer (some (p16.add (2 : Nat))))) h15
 (Value.agg (Array.mk [Value.map a17, Value.map a18])) ∧
 ∃ (s19 : ByteArray),
 ∃ (n20 : Int),
 Reads Tryz.prog (Instr.loadAt (101 : Nat) (Value.pointer (some (Addr.mk (Array.size h10) (0 : Nat) none)))) h15
 (Value.agg (Array.mk [Value.string s19, Value.int IntKind.i64 n20])) ∧
 ∃ (h21 : Array Value),
 Reads Tryz.prog (Instr.loadAt (103 : Nat) (Value.pointer (some ((Addr.mk (Array.size h10) (0 : Nat) none).add (2 : Nat))))) h15
 (Value.agg h21) ∧
 HC Tryz.prog (55 : Nat)
 (Array.mk
 [Value.agg (Array.mk [Value.map a17, Value.map a18]), Value.agg (Array.mk [Value.string s19, Value.int IntKind.i64 n20]),
 Value.agg h21])
 h15 fun (v22 : Value) (h23 : Heap) =>
 v22 = Value.tuple (Array.mk []) ∧
 I7 (IntKind.i64.wrap (n9 + (1 : Int))) h23 ∧ I8 (IntKind.i64.wrap (n9 + (1 : Int))) h23 < I8 n9 h10)
 (I7 (IntKind.i64.wrap (n9 + (1 : Int))) h15 ∧ I8 (IntKind.i64.wrap (n9 + (1 : Int))) h15 < I8 n9 h10))
 (∃ (p24 : Addr),
 some (Addr.mk d (0 : Nat) none) = some p24 ∧
 ∃ (a25 : Option Nat),
 Reads Tryz.prog (Instr.loadAt (91 : Nat) (Value.pointer (some p24))) h10 (Value.map a25) ∧
 SVC Tryz.prog (Instr.range (91 : Nat) (Value.map a25)) h10 fun (v26 : Value) (h27 : Heap) =>
 ∃ (a28 : Option Addr),
 v26 = Value.pointer a28 ∧
 ∃ (I29 : Heap → Prop),
 ∃ (I30 : Heap → Nat),
 I29 h27 ∧
 ∀ (h31 : Heap),
 I29 h31 →
 SVC Tryz.prog (Instr.next (Value.pointer a28) false (0 : Nat)) h31 fun (v32 : Value) (h33 : Heap) =>
 (v32 = Value.tuple (Array.mk [Value.bool false]) ∧
 ∃ (p34 : Addr),
 some (Addr.mk d (0 : Nat) none) = some p34 ∧
 ∃ (a35 : Option Nat),
 ∃ (a36 : Option Nat),
 Reads Tryz.prog (Instr.loadAt (94 : Nat) (Value.pointer (some (p34.add (2 : Nat))))) h33
 (Value.agg (Array.mk [Value.map a35, Value.map a36])) ∧
 HC Tryz.prog (52 : Nat) (Array.mk [Value.agg (Array.mk [Value.map a35, Value.map a36])]) h33 fun (v37 : Value) (h38 : Heap) =>
 ∃ (a39 : Option Nat),
 ∃ (a40 : Option Nat),
 v37 = Value.agg (Array.mk [Value.map a39, Value.map a40]) ∧
 ∃ (p41 : Addr),
 some (Addr.mk d (0 : Nat) none) = some p41 ∧
 SVC Tryz.prog
 (Instr.storeAt (94 : Nat) (Value.pointer (some p41)) (Value.agg (Array.mk [Value.map a39, Value.map a40]))) h38
 fun (x42 : Unit) (h43 : Heap) =>
 ∃ (p44 : Addr),
 some (Addr.mk d (0 : Nat) none) = some p44 ∧
 SVC Tryz.prog
 (Instr.storeAt (96 : Nat) (Value.pointer (some (p44.add (4 : Nat)))) (Value.slice none (0 : Nat) (0 : Nat)))
 h43 fun (x45 : Unit) (h46 : Heap) =>
 ∃ (p47 : Addr),
 some (Addr.mk d (0 : Nat) none) = some p47 ∧
 SVC Tryz.prog (Instr.storeAt (4 : Nat) (Value.pointer (some (p47.add (6 : Nat)))) (Value.bool true)) h46
 fun (x48 : Unit) (h49 : Heap) =>
 ∃ (p50 : Addr),
 some (Addr.mk d (0 : Nat) none) = some p50 ∧
 SVC Tryz.prog
 (Instr.storeAt (3 : Nat) (Value.pointer (some (p50.add (8 : Nat))))
 (Value.int IntKind.i64 (0 : Int)))
 h49 fun (x51 : Unit) (h52 : Heap) => R (Value.tuple (Array.mk [])) h52) ∨
 ∃ (v53 : Value),
 ∃ (v54 : Value),
 v32 = Value.tuple (Array.mk [Value.bool true, v53, v54]) ∧
 ∃ (s55 : ByteArray),
 ∃ (v56 : Value),
 Reads Tryz.prog (Instr.entry (Value.pointer a28)) h33 (Value.tuple (Array.mk [Value.string s55, v56])) ∧
 ∃ (p57 : Addr),
 some (Addr.mk d (0 : Nat) none) = some p57 ∧
 ∃ (a58 : Option Nat),
 Reads Tryz.prog (Instr.loadAt (91 : Nat) (Value.pointer (some (p57.add (2 : Nat))))) h33 (Value.map a58) ∧
 ∃ (n59 : Int),
 ∃ (b60 : Bool),
 Reads Tryz.prog (Instr.lookup (91 : Nat) (Value.map a58) (Value.string s55) true) h33
 (Value.tuple (Array.mk [Value.int IntKind.i64 n59, Value.bool b60])) ∧
 br (!b60)
 (∃ (p61 : Addr),
 some (Addr.mk d (0 : Nat) none) = some p61 ∧
 ∃ (a62 : Option Nat),
 Reads Tryz.prog (Instr.loadAt (91 : Nat) (Value.pointer (some (p61.add (2 : Nat))))) h33 (Value.map a62) ∧
 SVC Tryz.prog
 (Instr.mapUpdate (91 : Nat) (Value.map a62) (Value.string s55) (Value.int IntKind.i64 (0 : Int))) h33
 fun (x63 : Unit) (h64 : Heap) => I29 h64 ∧ I30 h64 < I30 h31)
 (I29 h33 ∧ I30 h33 < I30 h31)))) := by kernel_rfl

theorem vcOn (d : Nat) (h : Heap) (R : Value → Heap → Prop) :
    vcF Tryz.prog Tryz.f29 7 [] [] [.pointer (some ⟨d, 0, none⟩)] h R =
(∃ (b0 : Bool),
 Reads Tryz.prog (eqSem BinOp.neq (32 : Nat) (Operand.tmp (2 : Nat)) (Operand.const (Value.pointer none)) (Value.pointer (some (Addr.mk d (0 : Nat) none))) (Value.pointer none)) h (Value.bool b0) ∧
 br b0
 (∃ (p1 : Addr),
 some (Addr.mk d (0 : Nat) none) = some p1 ∧
 SVC Tryz.prog (Instr.storeAt (4 : Nat) (Value.pointer (some (p1.add (6 : Nat)))) (Value.bool false)) h fun (x2 : Unit) (h3 : Heap) => R (Value.tuple (Array.mk [])) h3)
 (R (Value.tuple (Array.mk [])) h)) := by kernel_rfl

theorem vcArm (d : Nat) (n keep : Int) (h : Heap) (R : Value → Heap → Prop) :
    vcF Tryz.prog Tryz.f25 17 [] [] [.pointer (some ⟨d, 0, none⟩), .int .i64 n, .int .u64 keep] h R =
(∃ (b0 : Bool),
 Reads Tryz.prog (eqSem BinOp.neq (32 : Nat) (Operand.tmp (6 : Nat)) (Operand.const (Value.pointer none)) (Value.pointer (some (Addr.mk d (0 : Nat) none))) (Value.pointer none)) h (Value.bool b0) ∧
 br b0
 (∃ (n1 : Int),
 Reads Tryz.prog (Builtin.max_ (Array.mk [(3 : Nat), (3 : Nat)]) (3 : Nat) (Array.mk [Value.int IntKind.i64 n, Value.int IntKind.i64 (0 : Int)])) h (Value.int IntKind.i64 n1) ∧
 ∃ (p2 : Addr),
 some (Addr.mk d (0 : Nat) none) = some p2 ∧
 SVC Tryz.prog (Instr.storeAt (3 : Nat) (Value.pointer (some (p2.add (8 : Nat)))) (Value.int IntKind.i64 n1)) h fun (x3 : Unit) (h4 : Heap) =>
 ∃ (p5 : Addr),
 some (Addr.mk d (0 : Nat) none) = some p5 ∧
 SVC Tryz.prog (Instr.storeAt (45 : Nat) (Value.pointer (some (p5.add (9 : Nat)))) (Value.int IntKind.u64 keep)) h4 fun (x6 : Unit) (h7 : Heap) => R (Value.tuple (Array.mk [])) h7)
 (R (Value.tuple (Array.mk [])) h)) := by kernel_rfl

theorem vcCount (d : Nat) (s : ByteArray) (h : Heap) (R : Value → Heap → Prop) :
    vcF Tryz.prog Tryz.f74 15 [] [] [.pointer (some ⟨d, 0, none⟩), .string s] h R =
(HC Tryz.prog (53 : Nat) (Array.mk [Value.pointer (some (Addr.mk d (0 : Nat) none))]) h fun (v0 : Value) (h1 : Heap) =>
 ∃ (n2 : Int),
 v0 = Value.int IntKind.i64 n2 ∧
 br (n2 != (0 : Int)) (R (Value.int IntKind.i64 (0 : Int)) h1)
 (∃ (p3 : Addr),
 some (Addr.mk d (0 : Nat) none) = some p3 ∧
 ∃ (a4 : Option Nat),
 Reads Tryz.prog (Instr.loadAt (91 : Nat) (Value.pointer (some p3))) h1 (Value.map a4) ∧
 ∃ (n5 : Int), Reads Tryz.prog (Instr.lookup (91 : Nat) (Value.map a4) (Value.string s) false) h1 (Value.int IntKind.i64 n5) ∧ R (Value.int IntKind.i64 n5) h1)) := by kernel_rfl

theorem vcHas (d : Nat) (s : ByteArray) (h : Heap) (R : Value → Heap → Prop) :
    vcF Tryz.prog Tryz.f56 21 [] [] [.pointer (some ⟨d, 0, none⟩), .string s] h R =
(HC Tryz.prog (53 : Nat) (Array.mk [Value.pointer (some (Addr.mk d (0 : Nat) none))]) h fun (v0 : Value) (h1 : Heap) =>
 ∃ (n2 : Int),
 v0 = Value.int IntKind.i64 n2 ∧
 br (n2 != (0 : Int)) (R (Value.bool false) h1)
 (∃ (p3 : Addr),
 some (Addr.mk d (0 : Nat) none) = some p3 ∧
 ∃ (a4 : Option Nat),
 Reads Tryz.prog (Instr.loadAt (91 : Nat) (Value.pointer (some p3))) h1 (Value.map a4) ∧
 ∃ (n5 : Int),
 ∃ (b6 : Bool),
 Reads Tryz.prog (Instr.lookup (91 : Nat) (Value.map a4) (Value.string s) true) h1 (Value.tuple (Array.mk [Value.int IntKind.i64 n5, Value.bool b6])) ∧ R (Value.bool b6) h1)) := by kernel_rfl

theorem vcActs (d : Nat) (h : Heap) (R : Value → Heap → Prop) :
    vcF Tryz.prog Tryz.f46 9 [] [] [.pointer (some ⟨d, 0, none⟩)] h R =
(∃ (b0 : Bool),
 Reads Tryz.prog (eqSem BinOp.eql (32 : Nat) (Operand.tmp (3 : Nat)) (Operand.const (Value.pointer none)) (Value.pointer (some (Addr.mk d (0 : Nat) none))) (Value.pointer none)) h (Value.bool b0) ∧
 br b0 (R (Value.int IntKind.i64 (0 : Int)) h)
 (∃ (p1 : Addr),
 some (Addr.mk d (0 : Nat) none) = some p1 ∧
 ∃ (n2 : Int), Reads Tryz.prog (Instr.loadAt (3 : Nat) (Value.pointer (some (p1.add (7 : Nat))))) h (Value.int IntKind.i64 n2) ∧ R (Value.int IntKind.i64 n2) h)) := by kernel_rfl

theorem vcDown (d : Nat) (h : Heap) (R : Value → Heap → Prop) :
    vcF Tryz.prog Tryz.f28 11 [] [] [.pointer (some ⟨d, 0, none⟩)] h R =
(∃ (b0 : Bool),
 Reads Tryz.prog (eqSem BinOp.neq (32 : Nat) (Operand.tmp (3 : Nat)) (Operand.const (Value.pointer none)) (Value.pointer (some (Addr.mk d (0 : Nat) none))) (Value.pointer none)) h (Value.bool b0) ∧
 ∃ (p1 : Addr),
 (b0 = true → some (Addr.mk d (0 : Nat) none) = some p1) ∧
 ∃ (b2 : Bool), (b0 = true → Reads Tryz.prog (Instr.loadAt (4 : Nat) (Value.pointer (some (p1.add (6 : Nat))))) h (Value.bool b2)) ∧ R (Value.bool (b0 && b2)) h) := by kernel_rfl

theorem vcSync (d : Nat) (s : ByteArray) (h : Heap) (R : Value → Heap → Prop) :
    vcF Tryz.prog Tryz.f71 15 [] [] [.pointer (some ⟨d, 0, none⟩), .string s] h R =
(HC Tryz.prog (91 : Nat) (Array.mk [Value.pointer (some (Addr.mk d (0 : Nat) none)), Value.string s, Value.func (Fn.func (110 : Nat)) (Array.mk []) (Array.mk [])]) h fun (v0 : Value) (h1 : Heap) =>
 ∃ (n2 : Int),
 v0 = Value.int IntKind.i64 n2 ∧
 br (n2 == (0 : Int))
 (HC Tryz.prog (111 : Nat) (Array.mk [Value.pointer (some (Addr.mk d (0 : Nat) none)), Value.string s]) h1 fun (v3 : Value) (h4 : Heap) =>
 v3 = Value.tuple (Array.mk []) ∧ R (Value.int IntKind.i64 n2) h4)
 (R (Value.int IntKind.i64 n2) h1)) := by kernel_rfl

theorem vcRemove (d : Nat) (s : ByteArray) (h : Heap) (R : Value → Heap → Prop) :
    vcF Tryz.prog Tryz.f58 30 [] [] [.pointer (some ⟨d, 0, none⟩), .string s] h R =
(∃ (s0 : ByteArray),
 Reads Tryz.prog (Instr.loadAt (9 : Nat) (Value.pointer (some (Addr.mk (Array.size h) (0 : Nat) none)))) (Array.push h (Obj.cells (Array.mk [Value.string s]) (9 : Nat))) (Value.string s0) ∧
 HC Tryz.prog (91 : Nat)
 (Array.mk
 [Value.pointer (some (Addr.mk d (0 : Nat) none)), Value.string s0, Value.func (Fn.func (89 : Nat)) (Array.mk []) (Array.mk [Value.pointer (some (Addr.mk (Array.size h) (0 : Nat) none))])])
 (Array.push h (Obj.cells (Array.mk [Value.string s]) (9 : Nat))) fun (v1 : Value) (h2 : Heap) =>
 ∃ (n3 : Int),
 v1 = Value.int IntKind.i64 n3 ∧
 br (n3 == (0 : Int))
 (∃ (p4 : Addr),
 some (Addr.mk d (0 : Nat) none) = some p4 ∧
 ∃ (a5 : Option Nat),
 ∃ (a6 : Option Nat),
 Reads Tryz.prog (Instr.loadAt (94 : Nat) (Value.pointer (some (p4.add (2 : Nat))))) h2 (Value.agg (Array.mk [Value.map a5, Value.map a6])) ∧
 HC Tryz.prog (89 : Nat) (Array.mk [Value.agg (Array.mk [Value.map a5, Value.map a6]), Value.pointer (some (Addr.mk (Array.size h) (0 : Nat) none))]) h2
 fun (v7 : Value) (h8 : Heap) =>
 v7 = Value.tuple (Array.mk []) ∧
 ∃ (p9 : Addr),
 some (Addr.mk d (0 : Nat) none) = some p9 ∧
 ∃ (a10 : Option Addr),
 ∃ (k11 : Nat),
 ∃ (k12 : Nat),
 Reads Tryz.prog (Instr.loadAt (96 : Nat) (Value.pointer (some (p9.add (4 : Nat))))) h8 (Value.slice a10 k11 k12) ∧
 HC Tryz.prog (92 : Nat)
 (Array.mk [Value.slice a10 k11 k12, Value.func (Fn.func (93 : Nat)) (Array.mk []) (Array.mk [Value.pointer (some (Addr.mk (Array.size h) (0 : Nat) none))])]) h8
 fun (v13 : Value) (h14 : Heap) =>
 ∃ (a15 : Option Addr),
 ∃ (k16 : Nat),
 ∃ (k17 : Nat),
 v13 = Value.slice a15 k16 k17 ∧
 ∃ (p18 : Addr),
 some (Addr.mk d (0 : Nat) none) = some p18 ∧
 SVC Tryz.prog (Instr.storeAt (96 : Nat) (Value.pointer (some (p18.add (4 : Nat)))) (Value.slice a15 k16 k17)) h14 fun (x19 : Unit) (h20 : Heap) =>
 R (Value.int IntKind.i64 n3) h20)
 (R (Value.int IntKind.i64 n3) h2)) := by kernel_rfl

theorem vcRename (d : Nat) (s t : ByteArray) (h : Heap) (R : Value → Heap → Prop) :
    vcF Tryz.prog Tryz.f72 77 [3] [] [.pointer (some ⟨d, 0, none⟩), .string s, .string t] h R =
(∃ (I0 : Int → Heap → Prop),
 (HC Tryz.prog (53 : Nat) (Array.mk [Value.pointer (some (Addr.mk d (0 : Nat) none))])
 ((Array.push h (Obj.cells (Array.mk [Value.string s]) (9 : Nat))).push (Obj.cells (Array.mk [Value.string t]) (9 : Nat))) fun (v1 : Value) (h2 : Heap) =>
 ∃ (n3 : Int),
 v1 = Value.int IntKind.i64 n3 ∧
 ∃ (s4 : ByteArray),
 ((n3 == (0 : Int)) = true → Reads Tryz.prog (Instr.loadAt (9 : Nat) (Value.pointer (some (Addr.mk (Array.size h) (0 : Nat) none)))) h2 (Value.string s4)) ∧
 ∃ (s5 : ByteArray),
 ((n3 == (0 : Int)) = true →
 Reads Tryz.prog (Instr.loadAt (9 : Nat) (Value.pointer (some (Addr.mk (Array.push h (Obj.cells (Array.mk [Value.string s]) (9 : Nat))).size (0 : Nat) none)))) h2
 (Value.string s5)) ∧
 ∃ (s6 : ByteArray),
 ((n3 == (0 : Int) && s4.toList == s5.toList) = true →
 Reads Tryz.prog (Instr.loadAt (9 : Nat) (Value.pointer (some (Addr.mk (Array.size h) (0 : Nat) none)))) h2 (Value.string s6)) ∧
 br (n3 == (0 : Int) && s4.toList == s5.toList)
 (HC Tryz.prog (56 : Nat) (Array.mk [Value.pointer (some (Addr.mk d (0 : Nat) none)), Value.string s6]) h2 fun (v7 : Value) (h8 : Heap) =>
 ∃ (b9 : Bool),
 v7 = Value.bool b9 ∧
 br b9
 (∃ (s10 : ByteArray),
 Reads Tryz.prog (Instr.loadAt (9 : Nat) (Value.pointer (some (Addr.mk (Array.size h) (0 : Nat) none)))) h8 (Value.string s10) ∧
 HC Tryz.prog (91 : Nat) (Array.mk [Value.pointer (some (Addr.mk d (0 : Nat) none)), Value.string s10, Value.func (Fn.func (112 : Nat)) (Array.mk []) (Array.mk [])])
 h8 fun (v11 : Value) (h12 : Heap) => ∃ (n13 : Int), v11 = Value.int IntKind.i64 n13 ∧ R (Value.int IntKind.i64 n13) h12)
 (I0 (0 : Int) h8))
 (I0 (0 : Int) h2)) ∧
 ∀ (n14 : Int) (h15 : Heap),
 I0 n14 h15 →
 ∃ (s16 : ByteArray),
 Reads Tryz.prog (Instr.loadAt (9 : Nat) (Value.pointer (some (Addr.mk (Array.size h) (0 : Nat) none)))) h15 (Value.string s16) ∧
 HC Tryz.prog (91 : Nat)
 (Array.mk
 [Value.pointer (some (Addr.mk d (0 : Nat) none)), Value.string s16,
 Value.func (Fn.func (113 : Nat)) (Array.mk [])
 (Array.mk
 [Value.pointer (some (Addr.mk (Array.size h) (0 : Nat) none)),
 Value.pointer (some (Addr.mk (Array.push h (Obj.cells (Array.mk [Value.string s]) (9 : Nat))).size (0 : Nat) none))])])
 h15 fun (v17 : Value) (h18 : Heap) =>
 ∃ (n19 : Int),
 v17 = Value.int IntKind.i64 n19 ∧
 br (n19 == (0 : Int))
 (∃ (p20 : Addr),
 some (Addr.mk d (0 : Nat) none) = some p20 ∧
 ∃ (a21 : Option Addr),
 ∃ (k22 : Nat),
 ∃ (k23 : Nat),
 Reads Tryz.prog (Instr.loadAt (96 : Nat) (Value.pointer (some (p20.add (4 : Nat))))) h18 (Value.slice a21 k22 k23) ∧
 HC Tryz.prog (92 : Nat)
 (Array.mk
 [Value.slice a21 k22 k23,
 Value.func (Fn.func (115 : Nat)) (Array.mk [])
 (Array.mk [Value.pointer (some (Addr.mk (Array.push h (Obj.cells (Array.mk [Value.string s]) (9 : Nat))).size (0 : Nat) none))])])
 h18 fun (v24 : Value) (h25 : Heap) =>
 ∃ (a26 : Option Addr),
 ∃ (k27 : Nat),
 ∃ (k28 : Nat),
 v24 = Value.slice a26 k27 k28 ∧
 ∃ (p29 : Addr),
 some (Addr.mk d (0 : Nat) none) = some p29 ∧
 SVC Tryz.prog (Instr.storeAt (96 : Nat) (Value.pointer (some (p29.add (4 : Nat)))) (Value.slice a26 k27 k28)) h25 fun (x30 : Unit) (h31 : Heap) =>
 ∃ (p32 : Addr),
 some (Addr.mk d (0 : Nat) none) = some p32 ∧
 ∃ (a33 : Option Addr),
 ∃ (k34 : Nat),
 ∃ (k35 : Nat),
 Reads Tryz.prog (Instr.loadAt (96 : Nat) (Value.pointer (some (p32.add (4 : Nat))))) h31 (Value.slice a33 k34 k35) ∧
 ∃ (I36 : Int → Heap → Prop),
 ∃ (I37 : Int → Heap → Nat),
 I36 (0 : Int) h31 ∧
 ∀ (n38 : Int) (h39 : Heap),
 I36 n38 h39 →
 br (decide (n38 < (↑k34 : Int)))
 (∃ (p40 : Addr),
 some (Addr.mk d (0 : Nat) none) = some p40 ∧
 ∃ (a41 : Option Addr),
 ∃ (k42 : Nat),
 ∃ (k43 : Nat),
 Reads Tryz.prog (Instr.loadAt (96 : Nat) (Value.pointer (some (p40.add (4 : Nat))))) h39 (Value.slice a41 k42 k43) ∧
 ∃ (p44 : Addr),
 (a41 = some p44 ∧ (0 : Int) ≤ n38 ∧ n38 < (↑k42 : Int)) ∧
 ∃ (s45 : ByteArray),
 Reads Tryz.prog (Instr.loadAt (9 : Nat) (Value.pointer (some (p44.add (n38.toNat * (514 : Nat)))))) h39
 (Value.string s45) ∧
 ∃ (s46 : ByteArray),
 Reads Tryz.prog (Instr.loadAt (9 : Nat) (Value.pointer (some (Addr.mk (Array.size h) (0 : Nat) none))))
 h39 (Value.string s46) ∧
 br (s45.toList == s46.toList)
 (∃ (p47 : Addr),
 some (Addr.mk d (0 : Nat) none) = some p47 ∧
 ∃ (a48 : Option Addr),
 ∃ (k49 : Nat),
 ∃ (k50 : Nat),
 Reads Tryz.prog (Instr.loadAt (96 : Nat) (Value.pointer (some (p47.add (4 : Nat))))) h39
 (Value.slice a48 k49 k50) ∧
 ∃ (s51 : ByteArray),
 Reads Tryz.prog
 (Instr.loadAt (9 : Nat)
 (Value.pointer
 (some
 (Addr.mk (Array.push h (Obj.cells (Array.mk [Value.string s]) (9 : Nat))).size
 (0 : Nat) none))))
 h39 (Value.string s51) ∧
 ∃ (p52 : Addr),
 (a48 = some p52 ∧ (0 : Int) ≤ n38 ∧ n38 < (↑k49 : Int)) ∧
 SVC Tryz.prog
 (Instr.storeAt (9 : Nat)
 (Value.pointer (some (p52.add (n38.toNat * (514 : Nat))))) (Value.string s51))
 h39 fun (x53 : Unit) (h54 : Heap) =>
 I36 (IntKind.i64.wrap (n38 + (1 : Int))) h54 ∧
 I37 (IntKind.i64.wrap (n38 + (1 : Int))) h54 < I37 n38 h39)
 (I36 (IntKind.i64.wrap (n38 + (1 : Int))) h39 ∧
 I37 (IntKind.i64.wrap (n38 + (1 : Int))) h39 < I37 n38 h39))
 (∃ (p55 : Addr),
 some (Addr.mk d (0 : Nat) none) = some p55 ∧
 ∃ (a56 : Option Nat),
 ∃ (a57 : Option Nat),
 Reads Tryz.prog (Instr.loadAt (94 : Nat) (Value.pointer (some (p55.add (2 : Nat))))) h39
 (Value.agg (Array.mk [Value.map a56, Value.map a57])) ∧
 ∃ (s58 : ByteArray),
 Reads Tryz.prog (Instr.loadAt (9 : Nat) (Value.pointer (some (Addr.mk (Array.size h) (0 : Nat) none)))) h39
 (Value.string s58) ∧
 ∃ (s59 : ByteArray),
 Reads Tryz.prog
 (Instr.loadAt (9 : Nat)
 (Value.pointer
 (some (Addr.mk (Array.push h (Obj.cells (Array.mk [Value.string s]) (9 : Nat))).size (0 : Nat) none))))
 h39 (Value.string s59) ∧
 HC Tryz.prog (114 : Nat)
 (Array.mk [Value.agg (Array.mk [Value.map a56, Value.map a57]), Value.string s58, Value.string s59]) h39
 fun (v60 : Value) (h61 : Heap) => v60 = Value.tuple (Array.mk []) ∧ R (Value.int IntKind.i64 n19) h61))
 (R (Value.int IntKind.i64 n19) h18)) := by kernel_rfl

theorem vcNames (d : Nat) (h : Heap) (R : Value → Heap → Prop) :
    vcF Tryz.prog Tryz.f20 13 [] [] [.pointer (some ⟨d, 0, none⟩)] h R =
(HC Tryz.prog (53 : Nat) (Array.mk [Value.pointer (some (Addr.mk d (0 : Nat) none))]) h fun (v0 : Value) (h1 : Heap) =>
 ∃ (n2 : Int),
 v0 = Value.int IntKind.i64 n2 ∧
 br (n2 != (0 : Int)) (R (Value.slice none (0 : Nat) (0 : Nat)) h1)
 (∃ (p3 : Addr),
 some (Addr.mk d (0 : Nat) none) = some p3 ∧
 ∃ (a4 : Option Nat),
 Reads Tryz.prog (Instr.loadAt (91 : Nat) (Value.pointer (some p3))) h1 (Value.map a4) ∧
 HC Tryz.prog (63 : Nat) (Array.mk [Value.map a4]) h1 fun (v5 : Value) (h6 : Heap) =>
 ∃ (v7 : Value),
 v5 = v7 ∧
 HC Tryz.prog (62 : Nat) (Array.mk [v7]) h6 fun (v8 : Value) (h9 : Heap) =>
 ∃ (a10 : Option Addr), ∃ (k11 : Nat), ∃ (k12 : Nat), v8 = Value.slice a10 k11 k12 ∧ R (Value.slice a10 k11 k12) h9)) := by kernel_rfl

theorem vcSettle (d : Nat) (s : ByteArray) (h : Heap) (R : Value → Heap → Prop) :
    vcF Tryz.prog Tryz.f111 54 [] [] [.pointer (some ⟨d, 0, none⟩), .string s] h R =
(∃ (p0 : Addr),
 some (Addr.mk d (0 : Nat) none) = some p0 ∧
 ∃ (a1 : Option Nat),
 ∃ (a2 : Option Nat),
 Reads Tryz.prog (Instr.loadAt (94 : Nat) (Value.pointer (some (p0.add (2 : Nat))))) (Array.push h (Obj.cells (Array.mk [Value.string s]) (9 : Nat)))
 (Value.agg (Array.mk [Value.map a1, Value.map a2])) ∧
 ∃ (s3 : ByteArray),
 Reads Tryz.prog (Instr.loadAt (9 : Nat) (Value.pointer (some (Addr.mk (Array.size h) (0 : Nat) none)))) (Array.push h (Obj.cells (Array.mk [Value.string s]) (9 : Nat))) (Value.string s3) ∧
 HC Tryz.prog (90 : Nat) (Array.mk [Value.agg (Array.mk [Value.map a1, Value.map a2]), Value.string s3, Value.int IntKind.i64 (0 : Int)])
 (Array.push h (Obj.cells (Array.mk [Value.string s]) (9 : Nat))) fun (v4 : Value) (h5 : Heap) =>
 v4 = Value.tuple (Array.mk []) ∧
 ∃ (p6 : Addr),
 some (Addr.mk d (0 : Nat) none) = some p6 ∧
 ∃ (a7 : Option Nat),
 Reads Tryz.prog (Instr.loadAt (91 : Nat) (Value.pointer (some (p6.add (2 : Nat))))) h5 (Value.map a7) ∧
 ∃ (s8 : ByteArray),
 Reads Tryz.prog (Instr.loadAt (9 : Nat) (Value.pointer (some (Addr.mk (Array.size h) (0 : Nat) none)))) h5 (Value.string s8) ∧
 SVC Tryz.prog (Instr.mapUpdate (91 : Nat) (Value.map a7) (Value.string s8) (Value.int IntKind.i64 (0 : Int))) h5 fun (x9 : Unit) (h10 : Heap) =>
 ∃ (p11 : Addr),
 some (Addr.mk d (0 : Nat) none) = some p11 ∧
 ∃ (a12 : Option Nat),
 Reads Tryz.prog (Instr.loadAt (91 : Nat) (Value.pointer (some p11))) h10 (Value.map a12) ∧
 ∃ (s13 : ByteArray),
 Reads Tryz.prog (Instr.loadAt (9 : Nat) (Value.pointer (some (Addr.mk (Array.size h) (0 : Nat) none)))) h10 (Value.string s13) ∧
 ∃ (n14 : Int),
 Reads Tryz.prog (Instr.lookup (91 : Nat) (Value.map a12) (Value.string s13) false) h10 (Value.int IntKind.i64 n14) ∧
 ∃ (I15 : Int → Heap → Prop),
 ∃ (I16 : Int → Heap → Nat),
 I15 (0 : Int) h10 ∧
 ∀ (n17 : Int) (h18 : Heap),
 I15 n17 h18 →
 br (decide (n17 < n14))
 (∃ (p19 : Addr),
 some (Addr.mk d (0 : Nat) none) = some p19 ∧
 ∃ (a20 : Option Nat),
 ∃ (a21 : Option Nat),
 Reads Tryz.prog (Instr.loadAt (94 : Nat) (Value.pointer (some (p19.add (2 : Nat))))) h18
 (Value.agg (Array.mk [Value.map a20, Value.map a21])) ∧
 ∃ (s22 : ByteArray),
 Reads Tryz.prog (Instr.loadAt (9 : Nat) (Value.pointer (some (Addr.mk (Array.size h) (0 : Nat) none)))) h18 (Value.string s22) ∧
 ∃ (p23 : Addr),
 some (Addr.mk d (0 : Nat) none) = some p23 ∧
 ∃ (a24 : Option Nat),
 Reads Tryz.prog (Instr.loadAt (92 : Nat) (Value.pointer (some (p23.add (1 : Nat))))) h18 (Value.map a24) ∧
 ∃ (s25 : ByteArray),
 Reads Tryz.prog (Instr.loadAt (9 : Nat) (Value.pointer (some (Addr.mk (Array.size h) (0 : Nat) none)))) h18
 (Value.string s25) ∧
 ∃ (h26 : Array Value),
 Reads Tryz.prog
 (Instr.lookup (92 : Nat) (Value.map a24)
 (Value.agg (Array.mk [Value.string s25, Value.int IntKind.i64 n17])) false)
 h18 (Value.agg h26) ∧
 HC Tryz.prog (55 : Nat)
 (Array.mk
 [Value.agg (Array.mk [Value.map a20, Value.map a21]),
 Value.agg (Array.mk [Value.string s22, Value.int IntKind.i64 n17]), Value.agg h26])
 h18 fun (v27 : Value) (h28 : Heap) =>
 v27 = Value.tuple (Array.mk []) ∧
 I15 (IntKind.i64.wrap (n17 + (1 : Int))) h28 ∧ I16 (IntKind.i64.wrap (n17 + (1 : Int))) h28 < I16 n17 h18)
 (∃ (p29 : Addr),
 some (Addr.mk d (0 : Nat) none) = some p29 ∧
 ∃ (a30 : Option Addr),
 ∃ (k31 : Nat),
 ∃ (k32 : Nat),
 Reads Tryz.prog (Instr.loadAt (96 : Nat) (Value.pointer (some (p29.add (4 : Nat))))) h18 (Value.slice a30 k31 k32) ∧
 HC Tryz.prog (92 : Nat)
 (Array.mk
 [Value.slice a30 k31 k32,
 Value.func (Fn.func (137 : Nat)) (Array.mk []) (Array.mk [Value.pointer (some (Addr.mk (Array.size h) (0 : Nat) none))])])
 h18 fun (v33 : Value) (h34 : Heap) =>
 ∃ (a35 : Option Addr),
 ∃ (k36 : Nat),
 ∃ (k37 : Nat),
 v33 = Value.slice a35 k36 k37 ∧
 ∃ (p38 : Addr),
 some (Addr.mk d (0 : Nat) none) = some p38 ∧
 SVC Tryz.prog (Instr.storeAt (96 : Nat) (Value.pointer (some (p38.add (4 : Nat)))) (Value.slice a35 k36 k37)) h34
 fun (x39 : Unit) (h40 : Heap) => R (Value.tuple (Array.mk [])) h40)) := by kernel_rfl
end Go.Proofs.YthkhaobmhheoaaaGreat
end

section
set_option linter.unusedVariables false
set_option maxRecDepth 100000
namespace Go.Proofs.YthkhaobmhheoaaaGreat
open Go Go.Vc Go.Proofs
end Go.Proofs.YthkhaobmhheoaaaGreat
end

section
set_option linter.unusedVariables false
set_option maxRecDepth 100000
namespace Go.Proofs.YthkhaobmhheoaaaGreat
open Go Go.Vc Go.Proofs

theorem vcDoes (d : Nat) (s : ByteArray) (f : Nat) (cap : Array Value) (h : Heap) (R : Value → Heap → Prop) :
    vcF Tryz.prog Tryz.f91 31 [] [] [.pointer (some ⟨d, 0, none⟩), .string s, .func (.func f) #[] cap] h R =
(HC Tryz.prog (53 : Nat) (Array.mk [Value.pointer (some (Addr.mk d (0 : Nat) none))]) h fun (v0 : Value) (h1 : Heap) =>
 ∃ (n2 : Int),
 v0 = Value.int IntKind.i64 n2 ∧
 br (n2 != (0 : Int)) (R (Value.int IntKind.i64 n2) h1)
 (HC Tryz.prog (56 : Nat) (Array.mk [Value.pointer (some (Addr.mk d (0 : Nat) none)), Value.string s]) h1 fun (v3 : Value) (h4 : Heap) =>
 ∃ (b5 : Bool),
 v3 = Value.bool b5 ∧
 br (!b5) (R (Value.int IntKind.i64 (5 : Int)) h4)
 (HC Tryz.prog (54 : Nat) (Array.mk [Value.pointer (some (Addr.mk d (0 : Nat) none))]) h4 fun (v6 : Value) (h7 : Heap) =>
 ∃ (b8 : Bool),
 v6 = Value.bool b8 ∧
 br b8
 (∃ (p9 : Addr),
 some (Addr.mk d (0 : Nat) none) = some p9 ∧
 ∃ (n10 : Int),
 Reads Tryz.prog (Instr.loadAt (45 : Nat) (Value.pointer (some (p9.add (9 : Nat))))) h7 (Value.int IntKind.u64 n10) ∧
 HC Tryz.prog (31 : Nat) (Array.mk [Value.pointer (some (Addr.mk d (0 : Nat) none)), Value.int IntKind.u64 n10]) h7 fun (v11 : Value) (h12 : Heap) =>
 v11 = Value.tuple (Array.mk []) ∧ R (Value.int IntKind.i64 (8 : Int)) h12)
 (∃ (p13 : Addr),
 some (Addr.mk d (0 : Nat) none) = some p13 ∧
 ∃ (a14 : Option Nat),
 ∃ (a15 : Option Nat),
 Reads Tryz.prog (Instr.loadAt (94 : Nat) (Value.pointer (some p13))) h7 (Value.agg (Array.mk [Value.map a14, Value.map a15])) ∧
 br (fnOk Tryz.prog f)
 (HC Tryz.prog f (Array.mk [Value.agg (Array.mk [Value.map a14, Value.map a15])] ++ cap) h7 fun (v16 : Value) (h17 : Heap) =>
 v16 = Value.tuple (Array.mk []) ∧ R (Value.int IntKind.i64 (0 : Int)) h17)
 False)))) := by kernel_rfl

theorem vcDelF (A : Option Addr) (n c : Nat) (f : Nat) (cap : Array Value) (h : Heap) (R : Value → Heap → Prop) :
    vcF Tryz.prog Tryz.f92 42 [] [] [.slice A n c, .func (.func f) #[] cap] h R =
(HC Tryz.prog (126 : Nat) (Array.mk [Value.slice A n c, Value.func (Fn.func f) (Array.mk []) cap]) h fun (v0 : Value) (h1 : Heap) =>
 ∃ (n2 : Int),
 v0 = Value.int IntKind.i64 n2 ∧
 br (n2 == (-1 : Int)) (R (Value.slice A n c) h1)
 (∃ (I3 : Int → Int → Heap → Prop),
 ∃ (I4 : Int → Int → Heap → Nat),
 I3 n2 (IntKind.i64.wrap (n2 + (1 : Int))) h1 ∧
 ∀ (n5 n6 : Int) (h7 : Heap),
 I3 n5 n6 h7 →
 br (decide (n6 < (↑n : Int)))
 (∃ (p8 : Addr),
 (A = some p8 ∧ (0 : Int) ≤ n6 ∧ n6 < (↑n : Int)) ∧
 ∃ (h9 : Array Value),
 Reads Tryz.prog (Instr.loadAt (105 : Nat) (Value.pointer (some (p8.add (n6.toNat * (514 : Nat)))))) h7 (Value.agg h9) ∧
 ∃ (h10 : Array Value),
 IsZ Tryz.prog (105 : Nat) h10 ∧
 SVC Tryz.prog (Instr.storeAt (105 : Nat) (Value.pointer (some (Addr.mk (Array.size h7) (0 : Nat) none))) (Value.agg h9)) (Array.push h7 (Obj.cells h10 (105 : Nat)))
 fun (x11 : Unit) (h12 : Heap) =>
 ∃ (h13 : Array Value),
 Reads Tryz.prog (Instr.loadAt (105 : Nat) (Value.pointer (some (Addr.mk (Array.size h7) (0 : Nat) none)))) h12 (Value.agg h13) ∧
 br (fnOk Tryz.prog f)
 (HC Tryz.prog f (Array.mk [Value.agg h13] ++ cap) h12 fun (v14 : Value) (h15 : Heap) =>
 ∃ (b16 : Bool),
 v14 = Value.bool b16 ∧
 br (!b16)
 (∃ (h17 : Array Value),
 Reads Tryz.prog (Instr.loadAt (105 : Nat) (Value.pointer (some (Addr.mk (Array.size h7) (0 : Nat) none)))) h15 (Value.agg h17) ∧
 ∃ (p18 : Addr),
 (A = some p18 ∧ (0 : Int) ≤ n5 ∧ n5 < (↑n : Int)) ∧
 SVC Tryz.prog (Instr.storeAt (105 : Nat) (Value.pointer (some (p18.add (n5.toNat * (514 : Nat))))) (Value.agg h17)) h15
 fun (x19 : Unit) (h20 : Heap) =>
 I3 (IntKind.i64.wrap (n5 + (1 : Int))) (IntKind.i64.wrap (n6 + (1 : Int))) h20 ∧
 I4 (IntKind.i64.wrap (n5 + (1 : Int))) (IntKind.i64.wrap (n6 + (1 : Int))) h20 < I4 n5 n6 h7)
 (I3 n5 (IntKind.i64.wrap (n6 + (1 : Int))) h15 ∧ I4 n5 (IntKind.i64.wrap (n6 + (1 : Int))) h15 < I4 n5 n6 h7))
 False)
 (((0 : Int) ≤ n5 ∧ n5 ≤ (↑n : Int) ∧ (↑n : Int) ≤ (↑c : Int) ∧ (↑c : Int) ≤ (↑c : Int)) ∧
 SVC Tryz.prog (Builtin.clear_ (Array.mk [(96 : Nat)]) (0 : Nat) (Array.mk [Value.slice (subA A n5.toNat c (514 : Nat)) (n - n5.toNat) (c - n5.toNat)])) h7
 fun (v21 : Value) (h22 : Heap) => v21 = Value.tuple (Array.mk []) ∧ ((0 : Int) ≤ n5 ∧ n5 ≤ (↑c : Int) ∧ (↑c : Int) ≤ (↑c : Int)) ∧ R (Value.slice A n5.toNat c) h22))) := by kernel_rfl

theorem vcIdxF (A : Option Addr) (n c : Nat) (f : Nat) (cap : Array Value) (h : Heap) (R : Value → Heap → Prop) :
    vcF Tryz.prog Tryz.f126 19 [] [] [.slice A n c, .func (.func f) #[] cap] h R =
(∃ (I0 : Int → Int → Heap → Prop),
 ∃ (I1 : Int → Int → Heap → Nat),
 I0 (0 : Int) (0 : Int) h ∧
 ∀ (n2 n3 : Int) (h4 : Heap),
 I0 n2 n3 h4 →
 br (decide (n3 < (↑n : Int)))
 (∃ (p5 : Addr),
 (A = some p5 ∧ (0 : Int) ≤ n3 ∧ n3 < (↑n : Int)) ∧
 ∃ (h6 : Array Value),
 Reads Tryz.prog (Instr.loadAt (105 : Nat) (Value.pointer (some (p5.add (n3.toNat * (514 : Nat)))))) h4 (Value.agg h6) ∧
 br (fnOk Tryz.prog f)
 (HC Tryz.prog f (Array.mk [Value.agg h6] ++ cap) h4 fun (v7 : Value) (h8 : Heap) =>
 ∃ (b9 : Bool),
 v7 = Value.bool b9 ∧ br b9 (R (Value.int IntKind.i64 n3) h8) (I0 n2 (IntKind.i64.wrap (n3 + (1 : Int))) h8 ∧ I1 n2 (IntKind.i64.wrap (n3 + (1 : Int))) h8 < I1 n2 n3 h4))
 False)
 (R (Value.int IntKind.i64 (-1 : Int)) h4)) := by kernel_rfl

theorem vcSync1 (c p : Nat) (h : Heap) (R : Value → Heap → Prop) :
    vcF Tryz.prog Tryz.f110 2 [] [] [.agg #[.map (some c), .map (some p)]] h R =
(R (Value.tuple (Array.mk [])) (Array.push h (Obj.cells (Array.mk [Value.map (some c), Value.map (some p)]) (94 : Nat)))) := by kernel_rfl

theorem vcRename1 (c p : Nat) (h : Heap) (R : Value → Heap → Prop) :
    vcF Tryz.prog Tryz.f112 2 [] [] [.agg #[.map (some c), .map (some p)]] h R =
(R (Value.tuple (Array.mk [])) (Array.push h (Obj.cells (Array.mk [Value.map (some c), Value.map (some p)]) (94 : Nat)))) := by kernel_rfl

theorem vcRename2 (c p : Nat) (q r : Nat) (h : Heap) (R : Value → Heap → Prop) :
    vcF Tryz.prog Tryz.f113 8 [] [] [.agg #[.map (some c), .map (some p)], .pointer (some ⟨q, 0, none⟩), .pointer (some ⟨r, 0, none⟩)] h R =
(∃ (a0 : Option Nat),
 ∃ (a1 : Option Nat),
 Reads Tryz.prog (Instr.loadAt (94 : Nat) (Value.pointer (some (Addr.mk (Array.size h) (0 : Nat) none)))) (Array.push h (Obj.cells (Array.mk [Value.map (some c), Value.map (some p)]) (94 : Nat)))
 (Value.agg (Array.mk [Value.map a0, Value.map a1])) ∧
 ∃ (s2 : ByteArray),
 Reads Tryz.prog (Instr.loadAt (9 : Nat) (Value.pointer (some (Addr.mk q (0 : Nat) none)))) (Array.push h (Obj.cells (Array.mk [Value.map (some c), Value.map (some p)]) (94 : Nat)))
 (Value.string s2) ∧
 ∃ (s3 : ByteArray),
 Reads Tryz.prog (Instr.loadAt (9 : Nat) (Value.pointer (some (Addr.mk r (0 : Nat) none)))) (Array.push h (Obj.cells (Array.mk [Value.map (some c), Value.map (some p)]) (94 : Nat)))
 (Value.string s3) ∧
 HC Tryz.prog (114 : Nat) (Array.mk [Value.agg (Array.mk [Value.map a0, Value.map a1]), Value.string s2, Value.string s3])
 (Array.push h (Obj.cells (Array.mk [Value.map (some c), Value.map (some p)]) (94 : Nat))) fun (v4 : Value) (h5 : Heap) =>
 v4 = Value.tuple (Array.mk []) ∧ R (Value.tuple (Array.mk [])) h5) := by kernel_rfl

theorem vcRename3 (w : Array Value) (q : Nat) (h : Heap) (R : Value → Heap → Prop) :
    vcF Tryz.prog Tryz.f115 9 [] [] [.agg w, .pointer (some ⟨q, 0, none⟩)] h R =
(∃ (s0 : ByteArray),
 Reads Tryz.prog (Instr.loadAt (9 : Nat) (Value.pointer (some (Addr.mk (Array.size h) (0 : Nat) none)))) (Array.push h (Obj.cells w (105 : Nat))) (Value.string s0) ∧
 ∃ (s1 : ByteArray),
 Reads Tryz.prog (Instr.loadAt (9 : Nat) (Value.pointer (some (Addr.mk q (0 : Nat) none)))) (Array.push h (Obj.cells w (105 : Nat))) (Value.string s1) ∧
 R (Value.bool (s0.toList == s1.toList)) (Array.push h (Obj.cells w (105 : Nat)))) := by kernel_rfl

theorem vcRemove1 (c p : Nat) (q : Nat) (h : Heap) (R : Value → Heap → Prop) :
    vcF Tryz.prog Tryz.f89 9 [] [] [.agg #[.map (some c), .map (some p)], .pointer (some ⟨q, 0, none⟩)] h R =
(∃ (a0 : Option Nat),
 ∃ (a1 : Option Nat),
 Reads Tryz.prog (Instr.loadAt (94 : Nat) (Value.pointer (some (Addr.mk (Array.size h) (0 : Nat) none)))) (Array.push h (Obj.cells (Array.mk [Value.map (some c), Value.map (some p)]) (94 : Nat)))
 (Value.agg (Array.mk [Value.map a0, Value.map a1])) ∧
 ∃ (s2 : ByteArray),
 Reads Tryz.prog (Instr.loadAt (9 : Nat) (Value.pointer (some (Addr.mk q (0 : Nat) none)))) (Array.push h (Obj.cells (Array.mk [Value.map (some c), Value.map (some p)]) (94 : Nat)))
 (Value.string s2) ∧
 HC Tryz.prog (90 : Nat) (Array.mk [Value.agg (Array.mk [Value.map a0, Value.map a1]), Value.string s2, Value.int IntKind.i64 (0 : Int)])
 (Array.push h (Obj.cells (Array.mk [Value.map (some c), Value.map (some p)]) (94 : Nat))) fun (v3 : Value) (h4 : Heap) =>
 v3 = Value.tuple (Array.mk []) ∧
 ∃ (a5 : Option Nat),
 Reads Tryz.prog (Instr.loadAt (91 : Nat) (Value.pointer (some (Addr.mk (Array.size h) (0 : Nat) none)))) h4 (Value.map a5) ∧
 ∃ (s6 : ByteArray),
 Reads Tryz.prog (Instr.loadAt (9 : Nat) (Value.pointer (some (Addr.mk q (0 : Nat) none)))) h4 (Value.string s6) ∧
 SVC Tryz.prog (Builtin.delete_ (Array.mk [(91 : Nat), (9 : Nat)]) (0 : Nat) (Array.mk [Value.map a5, Value.string s6])) h4 fun (v7 : Value) (h8 : Heap) =>
 v7 = Value.tuple (Array.mk []) ∧ R (Value.tuple (Array.mk [])) h8) := by kernel_rfl

theorem vcRemove2 (w : Array Value) (q : Nat) (h : Heap) (R : Value → Heap → Prop) :
    vcF Tryz.prog Tryz.f93 9 [] [] [.agg w, .pointer (some ⟨q, 0, none⟩)] h R =
(∃ (s0 : ByteArray),
 Reads Tryz.prog (Instr.loadAt (9 : Nat) (Value.pointer (some (Addr.mk (Array.size h) (0 : Nat) none)))) (Array.push h (Obj.cells w (105 : Nat))) (Value.string s0) ∧
 ∃ (s1 : ByteArray),
 Reads Tryz.prog (Instr.loadAt (9 : Nat) (Value.pointer (some (Addr.mk q (0 : Nat) none)))) (Array.push h (Obj.cells w (105 : Nat))) (Value.string s1) ∧
 R (Value.bool (s0.toList == s1.toList)) (Array.push h (Obj.cells w (105 : Nat)))) := by kernel_rfl

theorem vcSettle1 (w : Array Value) (q : Nat) (h : Heap) (R : Value → Heap → Prop) :
    vcF Tryz.prog Tryz.f137 9 [] [] [.agg w, .pointer (some ⟨q, 0, none⟩)] h R =
(∃ (s0 : ByteArray),
 Reads Tryz.prog (Instr.loadAt (9 : Nat) (Value.pointer (some (Addr.mk (Array.size h) (0 : Nat) none)))) (Array.push h (Obj.cells w (105 : Nat))) (Value.string s0) ∧
 ∃ (s1 : ByteArray),
 Reads Tryz.prog (Instr.loadAt (9 : Nat) (Value.pointer (some (Addr.mk q (0 : Nat) none)))) (Array.push h (Obj.cells w (105 : Nat))) (Value.string s1) ∧
 R (Value.bool (s0.toList == s1.toList)) (Array.push h (Obj.cells w (105 : Nat)))) := by kernel_rfl
end Go.Proofs.YthkhaobmhheoaaaGreat
end

section
set_option linter.unusedVariables false
set_option maxRecDepth 100000
namespace Go.Proofs.YthkhaobmhheoaaaGreat
open Go Go.Vc Go.Proofs

theorem vcRenameD (d : Nat) (s t : ByteArray) (h : Heap) (R : Value → Heap → Prop) :
    vcF Tryz.prog Tryz.f72 77 [3] [] [.pointer (some ⟨d, 0, none⟩), .string s, .string t] h R =
(∃ (I0 : Int → Heap → Prop),
 (HC Tryz.prog (53 : Nat) (Array.mk [Value.pointer (some (Addr.mk d (0 : Nat) none))])
 ((Array.push h (Obj.cells (Array.mk [Value.string s]) (9 : Nat))).push (Obj.cells (Array.mk [Value.string t]) (9 : Nat))) fun (v1 : Value) (h2 : Heap) =>
 ∃ (n3 : Int),
 v1 = Value.int IntKind.i64 n3 ∧
 ∃ (s4 : ByteArray),
 ((n3 == (0 : Int)) = true → Reads Tryz.prog (Instr.loadAt (9 : Nat) (Value.pointer (some (Addr.mk (Array.size h) (0 : Nat) none)))) h2 (Value.string s4)) ∧
 ∃ (s5 : ByteArray),
 ((n3 == (0 : Int)) = true →
 Reads Tryz.prog (Instr.loadAt (9 : Nat) (Value.pointer (some (Addr.mk (Array.push h (Obj.cells (Array.mk [Value.string s]) (9 : Nat))).size (0 : Nat) none)))) h2
 (Value.string s5)) ∧
 ∃ (s6 : ByteArray),
 ((n3 == (0 : Int) && s4.toList == s5.toList) = true →
 Reads Tryz.prog (Instr.loadAt (9 : Nat) (Value.pointer (some (Addr.mk (Array.size h) (0 : Nat) none)))) h2 (Value.string s6)) ∧
 br (n3 == (0 : Int) && s4.toList == s5.toList)
 (HC Tryz.prog (56 : Nat) (Array.mk [Value.pointer (some (Addr.mk d (0 : Nat) none)), Value.string s6]) h2 fun (v7 : Value) (h8 : Heap) =>
 ∃ (b9 : Bool),
 v7 = Value.bool b9 ∧
 br b9
 (∃ (s10 : ByteArray),
 Reads Tryz.prog (Instr.loadAt (9 : Nat) (Value.pointer (some (Addr.mk (Array.size h) (0 : Nat) none)))) h8 (Value.string s10) ∧
 HC Tryz.prog (91 : Nat) (Array.mk [Value.pointer (some (Addr.mk d (0 : Nat) none)), Value.string s10, Value.func (Fn.func (112 : Nat)) (Array.mk []) (Array.mk [])])
 h8 fun (v11 : Value) (h12 : Heap) => ∃ (n13 : Int), v11 = Value.int IntKind.i64 n13 ∧ R (Value.int IntKind.i64 n13) h12)
 (I0 (0 : Int) h8))
 (I0 (0 : Int) h2)) ∧
 ∀ (n14 : Int) (h15 : Heap),
 I0 n14 h15 →
 ∃ (s16 : ByteArray),
 Reads Tryz.prog (Instr.loadAt (9 : Nat) (Value.pointer (some (Addr.mk (Array.size h) (0 : Nat) none)))) h15 (Value.string s16) ∧
 HC Tryz.prog (91 : Nat)
 (Array.mk
 [Value.pointer (some (Addr.mk d (0 : Nat) none)), Value.string s16,
 Value.func (Fn.func (113 : Nat)) (Array.mk [])
 (Array.mk
 [Value.pointer (some (Addr.mk (Array.size h) (0 : Nat) none)),
 Value.pointer (some (Addr.mk (Array.push h (Obj.cells (Array.mk [Value.string s]) (9 : Nat))).size (0 : Nat) none))])])
 h15 fun (v17 : Value) (h18 : Heap) =>
 ∃ (n19 : Int),
 v17 = Value.int IntKind.i64 n19 ∧
 br (n19 == (0 : Int))
 (∃ (p20 : Addr),
 some (Addr.mk d (0 : Nat) none) = some p20 ∧
 ∃ (a21 : Option Addr),
 ∃ (k22 : Nat),
 ∃ (k23 : Nat),
 Reads Tryz.prog (Instr.loadAt (96 : Nat) (Value.pointer (some (p20.add (4 : Nat))))) h18 (Value.slice a21 k22 k23) ∧
 HC Tryz.prog (92 : Nat)
 (Array.mk
 [Value.slice a21 k22 k23,
 Value.func (Fn.func (115 : Nat)) (Array.mk [])
 (Array.mk [Value.pointer (some (Addr.mk (Array.push h (Obj.cells (Array.mk [Value.string s]) (9 : Nat))).size (0 : Nat) none))])])
 h18 fun (v24 : Value) (h25 : Heap) =>
 ∃ (a26 : Option Addr),
 ∃ (k27 : Nat),
 ∃ (k28 : Nat),
 v24 = Value.slice a26 k27 k28 ∧
 ∃ (p29 : Addr),
 some (Addr.mk d (0 : Nat) none) = some p29 ∧
 SVC Tryz.prog (Instr.storeAt (96 : Nat) (Value.pointer (some (p29.add (4 : Nat)))) (Value.slice a26 k27 k28)) h25 fun (x30 : Unit) (h31 : Heap) =>
 ∃ (p32 : Addr),
 some (Addr.mk d (0 : Nat) none) = some p32 ∧
 ∃ (a33 : Option Addr),
 ∃ (k34 : Nat),
 ∃ (k35 : Nat),
 Reads Tryz.prog (Instr.loadAt (96 : Nat) (Value.pointer (some (p32.add (4 : Nat))))) h31 (Value.slice a33 k34 k35) ∧
 ∃ (I36 : Int → Heap → Prop),
 ∃ (I37 : Int → Heap → Nat),
 I36 (0 : Int) h31 ∧
 ∀ (n38 : Int) (h39 : Heap),
 I36 n38 h39 →
 br (decide (n38 < (↑k34 : Int)))
 (∃ (p40 : Addr),
 some (Addr.mk d (0 : Nat) none) = some p40 ∧
 ∃ (a41 : Option Addr),
 ∃ (k42 : Nat),
 ∃ (k43 : Nat),
 Reads Tryz.prog (Instr.loadAt (96 : Nat) (Value.pointer (some (p40.add (4 : Nat))))) h39 (Value.slice a41 k42 k43) ∧
 ∃ (p44 : Addr),
 (a41 = some p44 ∧ (0 : Int) ≤ n38 ∧ n38 < (↑k42 : Int)) ∧
 ∃ (s45 : ByteArray),
 Reads Tryz.prog (Instr.loadAt (9 : Nat) (Value.pointer (some (p44.add (n38.toNat * (514 : Nat)))))) h39
 (Value.string s45) ∧
 ∃ (s46 : ByteArray),
 Reads Tryz.prog (Instr.loadAt (9 : Nat) (Value.pointer (some (Addr.mk (Array.size h) (0 : Nat) none))))
 h39 (Value.string s46) ∧
 br (s45.toList == s46.toList)
 (∃ (p47 : Addr),
 some (Addr.mk d (0 : Nat) none) = some p47 ∧
 ∃ (a48 : Option Addr),
 ∃ (k49 : Nat),
 ∃ (k50 : Nat),
 Reads Tryz.prog (Instr.loadAt (96 : Nat) (Value.pointer (some (p47.add (4 : Nat))))) h39
 (Value.slice a48 k49 k50) ∧
 ∃ (s51 : ByteArray),
 Reads Tryz.prog
 (Instr.loadAt (9 : Nat)
 (Value.pointer
 (some
 (Addr.mk (Array.push h (Obj.cells (Array.mk [Value.string s]) (9 : Nat))).size
 (0 : Nat) none))))
 h39 (Value.string s51) ∧
 ∃ (p52 : Addr),
 (a48 = some p52 ∧ (0 : Int) ≤ n38 ∧ n38 < (↑k49 : Int)) ∧
 SVC Tryz.prog
 (Instr.storeAt (9 : Nat)
 (Value.pointer (some (p52.add (n38.toNat * (514 : Nat))))) (Value.string s51))
 h39 fun (x53 : Unit) (h54 : Heap) =>
 I36 (IntKind.i64.wrap (n38 + (1 : Int))) h54 ∧
 I37 (IntKind.i64.wrap (n38 + (1 : Int))) h54 < I37 n38 h39)
 (I36 (IntKind.i64.wrap (n38 + (1 : Int))) h39 ∧
 I37 (IntKind.i64.wrap (n38 + (1 : Int))) h39 < I37 n38 h39))
 (∃ (p55 : Addr),
 some (Addr.mk d (0 : Nat) none) = some p55 ∧
 ∃ (a56 : Option Nat),
 ∃ (a57 : Option Nat),
 Reads Tryz.prog (Instr.loadAt (94 : Nat) (Value.pointer (some (p55.add (2 : Nat))))) h39
 (Value.agg (Array.mk [Value.map a56, Value.map a57])) ∧
 ∃ (s58 : ByteArray),
 Reads Tryz.prog (Instr.loadAt (9 : Nat) (Value.pointer (some (Addr.mk (Array.size h) (0 : Nat) none)))) h39
 (Value.string s58) ∧
 ∃ (s59 : ByteArray),
 Reads Tryz.prog
 (Instr.loadAt (9 : Nat)
 (Value.pointer
 (some (Addr.mk (Array.push h (Obj.cells (Array.mk [Value.string s]) (9 : Nat))).size (0 : Nat) none))))
 h39 (Value.string s59) ∧
 HC Tryz.prog (114 : Nat)
 (Array.mk [Value.agg (Array.mk [Value.map a56, Value.map a57]), Value.string s58, Value.string s59]) h39
 fun (v60 : Value) (h61 : Heap) => v60 = Value.tuple (Array.mk []) ∧ R (Value.int IntKind.i64 n19) h61))
 (R (Value.int IntKind.i64 n19) h18)) := by kernel_rfl
end Go.Proofs.YthkhaobmhheoaaaGreat
end
