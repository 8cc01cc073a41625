/-
  What a call of each function comes to, as the symbolic run tells it: by the kernel's own reckoning. Conditions: none.
-/
import Derived.Test.YtembbemljejjbaaVcE
import Derived.Test.YtembbemljejjbaaProg
import Derived.KernelRfl
set_option linter.unusedVariables false
set_option maxRecDepth 100000
namespace Go.Proofs.Ytembbemljejjbaa
open Go Go.Vc Go.Proofs

theorem vcReady (d : Nat) (h : Heap) (R : Value → Heap → Prop) :
    vcF Try.prog Try.f47 11 [] [] [.pointer (some ⟨d, 0, none⟩)] h R =
(∃ (b0 : Bool),
 Reads Try.prog (eqSem BinOp.eql (24 : Nat) (Operand.tmp (4 : Nat)) (Operand.const (Value.pointer none)) (Value.pointer (some (Addr.mk d (0 : Nat) none))) (Value.pointer none)) h (Value.bool b0) ∧
 br b0 (R (Value.int IntKind.i64 (2 : Int)) h)
 (∃ (p1 : Addr),
 some (Addr.mk d (0 : Nat) none) = some p1 ∧
 ∃ (b2 : Bool),
 Reads Try.prog (Instr.loadAt (4 : Nat) (Value.pointer (some (p1.add (6 : Nat))))) h (Value.bool b2) ∧ br b2 (R (Value.int IntKind.i64 (8 : Int)) h) (R (Value.int IntKind.i64 (0 : Int)) h))) := by kernel_rfl

theorem vcReady0 (h : Heap) (R : Value → Heap → Prop) :
    vcF Try.prog Try.f47 11 [] [] [.pointer none] h R =
(∃ (b0 : Bool),
 Reads Try.prog (eqSem BinOp.eql (24 : Nat) (Operand.tmp (4 : Nat)) (Operand.const (Value.pointer none)) (Value.pointer none) (Value.pointer none)) h (Value.bool b0) ∧
 br b0 (R (Value.int IntKind.i64 (2 : Int)) h)
 (∃ (p1 : Addr),
 none = some p1 ∧
 ∃ (b2 : Bool),
 Reads Try.prog (Instr.loadAt (4 : Nat) (Value.pointer (some (p1.add (6 : Nat))))) h (Value.bool b2) ∧ br b2 (R (Value.int IntKind.i64 (8 : Int)) h) (R (Value.int IntKind.i64 (0 : Int)) h))) := by kernel_rfl

theorem vcAct (d : Nat) (h : Heap) (R : Value → Heap → Prop) :
    vcF Try.prog Try.f48 27 [] [] [.pointer (some ⟨d, 0, none⟩)] h R =
(∃ (p0 : Addr),
 some (Addr.mk d (0 : Nat) none) = some p0 ∧
 ∃ (n1 : Int),
 Reads Try.prog (Instr.loadAt (3 : Nat) (Value.pointer (some (p0.add (7 : Nat))))) h (Value.int IntKind.i64 n1) ∧
 ∃ (p2 : Addr),
 some (Addr.mk d (0 : Nat) none) = some p2 ∧
 SVC Try.prog (Instr.storeAt (3 : Nat) (Value.pointer (some (p2.add (7 : Nat)))) (Value.int IntKind.i64 (IntKind.i64.wrap (n1 + (1 : Int))))) h fun (x3 : Unit) (h4 : Heap) =>
 ∃ (p5 : Addr),
 some (Addr.mk d (0 : Nat) none) = some p5 ∧
 ∃ (n6 : Int),
 Reads Try.prog (Instr.loadAt (3 : Nat) (Value.pointer (some (p5.add (8 : Nat))))) h4 (Value.int IntKind.i64 n6) ∧
 br (decide (n6 > (0 : Int)))
 (∃ (p7 : Addr),
 some (Addr.mk d (0 : Nat) none) = some p7 ∧
 ∃ (n8 : Int),
 Reads Try.prog (Instr.loadAt (3 : Nat) (Value.pointer (some (p7.add (8 : Nat))))) h4 (Value.int IntKind.i64 n8) ∧
 ∃ (p9 : Addr),
 some (Addr.mk d (0 : Nat) none) = some p9 ∧
 SVC Try.prog (Instr.storeAt (3 : Nat) (Value.pointer (some (p9.add (8 : Nat)))) (Value.int IntKind.i64 (IntKind.i64.wrap (n8 - (1 : Int))))) h4
 fun (x10 : Unit) (h11 : Heap) =>
 ∃ (p12 : Addr),
 some (Addr.mk d (0 : Nat) none) = some p12 ∧
 ∃ (n13 : Int),
 Reads Try.prog (Instr.loadAt (3 : Nat) (Value.pointer (some (p12.add (8 : Nat))))) h11 (Value.int IntKind.i64 n13) ∧ R (Value.bool (n13 == (0 : Int))) h11)
 (R (Value.bool false) h4)) := by kernel_rfl

theorem vcFree (d : Nat) (h : Heap) (R : Value → Heap → Prop) :
    vcF Try.prog Try.f22 26 [] [] [.pointer (some ⟨d, 0, none⟩)] h R =
(∃ (b0 : Bool),
 Reads Try.prog (eqSem BinOp.eql (24 : Nat) (Operand.tmp (6 : Nat)) (Operand.const (Value.pointer none)) (Value.pointer (some (Addr.mk d (0 : Nat) none))) (Value.pointer none)) h (Value.bool b0) ∧
 br b0 (R (Value.int IntKind.i64 (0 : Int)) h)
 (∃ (p1 : Addr),
 some (Addr.mk d (0 : Nat) none) = some p1 ∧
 ∃ (n2 : Int),
 Reads Try.prog (Instr.loadAt (3 : Nat) (Value.pointer (some (p1.add (5 : Nat))))) h (Value.int IntKind.i64 n2) ∧
 ∃ (p3 : Addr),
 some (Addr.mk d (0 : Nat) none) = some p3 ∧
 ∃ (a4 : Option Nat),
 Reads Try.prog (Instr.loadAt (84 : Nat) (Value.pointer (some p3))) h (Value.map a4) ∧
 SVC Try.prog (Instr.range (84 : Nat) (Value.map a4)) h fun (v5 : Value) (h6 : Heap) =>
 ∃ (a7 : Option Addr),
 v5 = Value.pointer a7 ∧
 ∃ (I8 : Int → Heap → Prop),
 ∃ (I9 : Int → Heap → Nat),
 I8 n2 h6 ∧
 ∀ (n10 : Int) (h11 : Heap),
 I8 n10 h11 →
 SVC Try.prog (Instr.next (Value.pointer a7) false (0 : Nat)) h11 fun (v12 : Value) (h13 : Heap) =>
 v12 = Value.tuple (Array.mk [Value.bool false]) ∧ R (Value.int IntKind.i64 n10) h13 ∨
 ∃ (v14 : Value),
 ∃ (v15 : Value),
 v12 = Value.tuple (Array.mk [Value.bool true, v14, v15]) ∧
 ∃ (v16 : Value),
 ∃ (n17 : Int),
 Reads Try.prog (Instr.entry (Value.pointer a7)) h13 (Value.tuple (Array.mk [v16, Value.int IntKind.i64 n17])) ∧
 I8 (IntKind.i64.wrap (n10 - n17)) h13 ∧ I9 (IntKind.i64.wrap (n10 - n17)) h13 < I9 n10 h11)) := by kernel_rfl

theorem vcSet (c p : Nat) (s : ByteArray) (i : Int) (pg : Array Value) (h : Heap) (R : Value → Heap → Prop) :
    vcF Try.prog Try.f49 23 [] [] [.agg #[.map (some c), .map (some p)], .agg #[.string s, .int .i64 i], .agg pg] h R =
(∃ (a0 : Option Nat),
 Reads Try.prog (Instr.loadAt (85 : Nat) (Value.pointer (some ((Addr.mk (Array.size h) (0 : Nat) none).add (1 : Nat)))))
 (((Array.push h (Obj.cells (Array.mk [Value.map (some c), Value.map (some p)]) (87 : Nat))).push (Obj.cells (Array.mk [Value.string s, Value.int IntKind.i64 i]) (94 : Nat))).push
 (Obj.cells pg (96 : Nat)))
 (Value.map a0) ∧
 ∃ (s1 : ByteArray),
 ∃ (n2 : Int),
 Reads Try.prog (Instr.loadAt (94 : Nat) (Value.pointer (some (Addr.mk (Array.push h (Obj.cells (Array.mk [Value.map (some c), Value.map (some p)]) (87 : Nat))).size (0 : Nat) none))))
 (((Array.push h (Obj.cells (Array.mk [Value.map (some c), Value.map (some p)]) (87 : Nat))).push (Obj.cells (Array.mk [Value.string s, Value.int IntKind.i64 i]) (94 : Nat))).push
 (Obj.cells pg (96 : Nat)))
 (Value.agg (Array.mk [Value.string s1, Value.int IntKind.i64 n2])) ∧
 ∃ (h3 : Array Value),
 Reads Try.prog
 (Instr.loadAt (96 : Nat)
 (Value.pointer
 (some
 (Addr.mk
 ((Array.push h (Obj.cells (Array.mk [Value.map (some c), Value.map (some p)]) (87 : Nat))).push
 (Obj.cells (Array.mk [Value.string s, Value.int IntKind.i64 i]) (94 : Nat))).size
 (0 : Nat) none))))
 (((Array.push h (Obj.cells (Array.mk [Value.map (some c), Value.map (some p)]) (87 : Nat))).push (Obj.cells (Array.mk [Value.string s, Value.int IntKind.i64 i]) (94 : Nat))).push
 (Obj.cells pg (96 : Nat)))
 (Value.agg h3) ∧
 SVC Try.prog (Instr.mapUpdate (85 : Nat) (Value.map a0) (Value.agg (Array.mk [Value.string s1, Value.int IntKind.i64 n2])) (Value.agg h3))
 (((Array.push h (Obj.cells (Array.mk [Value.map (some c), Value.map (some p)]) (87 : Nat))).push (Obj.cells (Array.mk [Value.string s, Value.int IntKind.i64 i]) (94 : Nat))).push
 (Obj.cells pg (96 : Nat)))
 fun (x4 : Unit) (h5 : Heap) =>
 ∃ (a6 : Option Nat),
 Reads Try.prog (Instr.loadAt (84 : Nat) (Value.pointer (some (Addr.mk (Array.size h) (0 : Nat) none)))) h5 (Value.map a6) ∧
 ∃ (s7 : ByteArray),
 Reads Try.prog
 (Instr.loadAt (9 : Nat) (Value.pointer (some (Addr.mk (Array.push h (Obj.cells (Array.mk [Value.map (some c), Value.map (some p)]) (87 : Nat))).size (0 : Nat) none)))) h5
 (Value.string s7) ∧
 ∃ (a8 : Option Nat),
 Reads Try.prog (Instr.loadAt (84 : Nat) (Value.pointer (some (Addr.mk (Array.size h) (0 : Nat) none)))) h5 (Value.map a8) ∧
 ∃ (s9 : ByteArray),
 Reads Try.prog
 (Instr.loadAt (9 : Nat)
 (Value.pointer (some (Addr.mk (Array.push h (Obj.cells (Array.mk [Value.map (some c), Value.map (some p)]) (87 : Nat))).size (0 : Nat) none))))
 h5 (Value.string s9) ∧
 ∃ (n10 : Int),
 Reads Try.prog (Instr.lookup (84 : Nat) (Value.map a8) (Value.string s9) false) h5 (Value.int IntKind.i64 n10) ∧
 ∃ (n11 : Int),
 Reads Try.prog
 (Instr.loadAt (3 : Nat)
 (Value.pointer
 (some ((Addr.mk (Array.push h (Obj.cells (Array.mk [Value.map (some c), Value.map (some p)]) (87 : Nat))).size (0 : Nat) none).add (1 : Nat)))))
 h5 (Value.int IntKind.i64 n11) ∧
 ∃ (n12 : Int),
 Reads Try.prog
 (Builtin.max_ (Array.mk [(3 : Nat), (3 : Nat)]) (3 : Nat)
 (Array.mk [Value.int IntKind.i64 n10, Value.int IntKind.i64 (IntKind.i64.wrap (n11 + (1 : Int)))]))
 h5 (Value.int IntKind.i64 n12) ∧
 SVC Try.prog (Instr.mapUpdate (84 : Nat) (Value.map a6) (Value.string s7) (Value.int IntKind.i64 n12)) h5 fun (x13 : Unit) (h14 : Heap) =>
 R (Value.tuple (Array.mk [])) h14) := by kernel_rfl

theorem vcClone (c p : Nat) (h : Heap) (R : Value → Heap → Prop) :
    vcF Try.prog Try.f46 10 [] [] [.agg #[.map (some c), .map (some p)]] h R =
(∃ (I0 : Heap → Prop),
 I0 ((Array.push h (Obj.cells (Array.mk [Value.map (some c), Value.map (some p)]) (87 : Nat))).push (Obj.cells (Array.mk [Value.map none, Value.map none]) (87 : Nat))) ∧
 ∃ (a1 : Option Nat),
 Reads Try.prog (Instr.loadAt (84 : Nat) (Value.pointer (some (Addr.mk (Array.size h) (0 : Nat) none))))
 ((Array.push h (Obj.cells (Array.mk [Value.map (some c), Value.map (some p)]) (87 : Nat))).push (Obj.cells (Array.mk [Value.map none, Value.map none]) (87 : Nat))) (Value.map a1) ∧
 HC Try.prog (88 : Nat) (Array.mk [Value.map a1])
 ((Array.push h (Obj.cells (Array.mk [Value.map (some c), Value.map (some p)]) (87 : Nat))).push (Obj.cells (Array.mk [Value.map none, Value.map none]) (87 : Nat)))
 fun (v2 : Value) (h3 : Heap) =>
 ∃ (a4 : Option Nat),
 v2 = Value.map a4 ∧
 I0 h3 ∧
 ∃ (a5 : Option Nat),
 (∀ (h6 : Heap), I0 h6 → Reads Try.prog (Instr.loadAt (85 : Nat) (Value.pointer (some ((Addr.mk (Array.size h) (0 : Nat) none).add (1 : Nat))))) h6 (Value.map a5)) ∧
 HC Try.prog (89 : Nat) (Array.mk [Value.map a5]) h3 fun (v7 : Value) (h8 : Heap) =>
 ∃ (a9 : Option Nat),
 v7 = Value.map a9 ∧
 SVC Try.prog
 (Instr.storeAt (87 : Nat) (Value.pointer (some (Addr.mk (Array.push h (Obj.cells (Array.mk [Value.map (some c), Value.map (some p)]) (87 : Nat))).size (0 : Nat) none)))
 (Value.agg (Array.mk [Value.map a4, Value.map a9])))
 h8 fun (x10 : Unit) (h11 : Heap) =>
 ∃ (a12 : Option Nat),
 ∃ (a13 : Option Nat),
 Reads Try.prog (loadVar (87 : Nat) (Addr.mk (Array.push h (Obj.cells (Array.mk [Value.map (some c), Value.map (some p)]) (87 : Nat))).size (0 : Nat) none)) h11
 (Value.agg (Array.mk [Value.map a12, Value.map a13])) ∧
 R (Value.agg (Array.mk [Value.map a12, Value.map a13])) h11) := by kernel_rfl

theorem vcCutS (c p : Nat) (s : ByteArray) (n : Int) (h : Heap) (R : Value → Heap → Prop) :
    vcF Try.prog Try.f54 30 [] [] [.agg #[.map (some c), .map (some p)], .string s, .int .i64 n] h R =
(∃ (I0 : Int → Heap → Prop),
 ∃ (I1 : Int → Heap → Nat),
 I0 n (Array.push h (Obj.cells (Array.mk [Value.map (some c), Value.map (some p)]) (87 : Nat))) ∧
 ∀ (n2 : Int) (h3 : Heap),
 I0 n2 h3 →
 ∃ (a4 : Option Nat),
 Reads Try.prog (Instr.loadAt (84 : Nat) (Value.pointer (some (Addr.mk (Array.size h) (0 : Nat) none)))) h3 (Value.map a4) ∧
 ∃ (n5 : Int),
 Reads Try.prog (Instr.lookup (84 : Nat) (Value.map a4) (Value.string s) false) h3 (Value.int IntKind.i64 n5) ∧
 br (decide (n2 < n5))
 (∃ (a6 : Option Nat),
 Reads Try.prog (Instr.loadAt (85 : Nat) (Value.pointer (some ((Addr.mk (Array.size h) (0 : Nat) none).add (1 : Nat))))) h3 (Value.map a6) ∧
 SVC Try.prog (Builtin.delete_ (Array.mk [(85 : Nat), (94 : Nat)]) (0 : Nat) (Array.mk [Value.map a6, Value.agg (Array.mk [Value.string s, Value.int IntKind.i64 n2])])) h3
 fun (v7 : Value) (h8 : Heap) => v7 = Value.tuple (Array.mk []) ∧ I0 (IntKind.i64.wrap (n2 + (1 : Int))) h8 ∧ I1 (IntKind.i64.wrap (n2 + (1 : Int))) h8 < I1 n2 h3)
 (∃ (a9 : Option Nat),
 Reads Try.prog (Instr.loadAt (84 : Nat) (Value.pointer (some (Addr.mk (Array.size h) (0 : Nat) none)))) h3 (Value.map a9) ∧
 ∃ (a10 : Option Nat),
 Reads Try.prog (Instr.loadAt (84 : Nat) (Value.pointer (some (Addr.mk (Array.size h) (0 : Nat) none)))) h3 (Value.map a10) ∧
 ∃ (n11 : Int),
 Reads Try.prog (Instr.lookup (84 : Nat) (Value.map a10) (Value.string s) false) h3 (Value.int IntKind.i64 n11) ∧
 ∃ (n12 : Int),
 Reads Try.prog (Builtin.min_ (Array.mk [(3 : Nat), (3 : Nat)]) (3 : Nat) (Array.mk [Value.int IntKind.i64 n11, Value.int IntKind.i64 n])) h3
 (Value.int IntKind.i64 n12) ∧
 SVC Try.prog (Instr.mapUpdate (84 : Nat) (Value.map a9) (Value.string s) (Value.int IntKind.i64 n12)) h3 fun (x13 : Unit) (h14 : Heap) =>
 R (Value.tuple (Array.mk [])) h14)) := by kernel_rfl

theorem vcMove (c p : Nat) (a b : ByteArray) (h : Heap) (R : Value → Heap → Prop) :
    vcF Try.prog Try.f61 51 [] [] [.agg #[.map (some c), .map (some p)], .string a, .string b] h R =
(∃ (a0 : Option Nat),
 ∃ (a1 : Option Nat),
 Reads Try.prog (Instr.loadAt (87 : Nat) (Value.pointer (some (Addr.mk (Array.size h) (0 : Nat) none)))) (Array.push h (Obj.cells (Array.mk [Value.map (some c), Value.map (some p)]) (87 : Nat)))
 (Value.agg (Array.mk [Value.map a0, Value.map a1])) ∧
 HC Try.prog (54 : Nat) (Array.mk [Value.agg (Array.mk [Value.map a0, Value.map a1]), Value.string b, Value.int IntKind.i64 (0 : Int)])
 (Array.push h (Obj.cells (Array.mk [Value.map (some c), Value.map (some p)]) (87 : Nat))) fun (v2 : Value) (h3 : Heap) =>
 v2 = Value.tuple (Array.mk []) ∧
 ∃ (a4 : Option Nat),
 Reads Try.prog (Instr.loadAt (84 : Nat) (Value.pointer (some (Addr.mk (Array.size h) (0 : Nat) none)))) h3 (Value.map a4) ∧
 ∃ (n5 : Int),
 Reads Try.prog (Instr.lookup (84 : Nat) (Value.map a4) (Value.string a) false) h3 (Value.int IntKind.i64 n5) ∧
 ∃ (I6 : Int → Heap → Prop),
 ∃ (I7 : Int → Heap → Nat),
 I6 (0 : Int) h3 ∧
 ∀ (n8 : Int) (h9 : Heap),
 I6 n8 h9 →
 br (decide (n8 < n5))
 (∃ (a10 : Option Nat),
 Reads Try.prog (Instr.loadAt (85 : Nat) (Value.pointer (some ((Addr.mk (Array.size h) (0 : Nat) none).add (1 : Nat))))) h9 (Value.map a10) ∧
 ∃ (h11 : Array Value),
 ∃ (b12 : Bool),
 Reads Try.prog (Instr.lookup (85 : Nat) (Value.map a10) (Value.agg (Array.mk [Value.string a, Value.int IntKind.i64 n8])) true) h9
 (Value.tuple (Array.mk [Value.agg h11, Value.bool b12])) ∧
 ∃ (h13 : Array Value),
 IsZ Try.prog (96 : Nat) h13 ∧
 SVC Try.prog (Instr.storeAt (96 : Nat) (Value.pointer (some (Addr.mk (Array.size h9) (0 : Nat) none))) (Value.agg h11))
 (Array.push h9 (Obj.cells h13 (96 : Nat))) fun (x14 : Unit) (h15 : Heap) =>
 br b12
 (∃ (a16 : Option Nat),
 Reads Try.prog (Instr.loadAt (85 : Nat) (Value.pointer (some ((Addr.mk (Array.size h) (0 : Nat) none).add (1 : Nat))))) h15 (Value.map a16) ∧
 ∃ (h17 : Array Value),
 Reads Try.prog (Instr.loadAt (96 : Nat) (Value.pointer (some (Addr.mk (Array.size h9) (0 : Nat) none)))) h15 (Value.agg h17) ∧
 SVC Try.prog (Instr.mapUpdate (85 : Nat) (Value.map a16) (Value.agg (Array.mk [Value.string b, Value.int IntKind.i64 n8])) (Value.agg h17)) h15
 fun (x18 : Unit) (h19 : Heap) =>
 ∃ (a20 : Option Nat),
 Reads Try.prog (Instr.loadAt (85 : Nat) (Value.pointer (some ((Addr.mk (Array.size h) (0 : Nat) none).add (1 : Nat))))) h19
 (Value.map a20) ∧
 SVC Try.prog
 (Builtin.delete_ (Array.mk [(85 : Nat), (94 : Nat)]) (0 : Nat)
 (Array.mk [Value.map a20, Value.agg (Array.mk [Value.string a, Value.int IntKind.i64 n8])]))
 h19 fun (v21 : Value) (h22 : Heap) =>
 v21 = Value.tuple (Array.mk []) ∧ I6 (IntKind.i64.wrap (n8 + (1 : Int))) h22 ∧ I7 (IntKind.i64.wrap (n8 + (1 : Int))) h22 < I7 n8 h9)
 (I6 (IntKind.i64.wrap (n8 + (1 : Int))) h15 ∧ I7 (IntKind.i64.wrap (n8 + (1 : Int))) h15 < I7 n8 h9))
 (∃ (a23 : Option Nat),
 Reads Try.prog (Instr.loadAt (84 : Nat) (Value.pointer (some (Addr.mk (Array.size h) (0 : Nat) none)))) h9 (Value.map a23) ∧
 ∃ (a24 : Option Nat),
 Reads Try.prog (Instr.loadAt (84 : Nat) (Value.pointer (some (Addr.mk (Array.size h) (0 : Nat) none)))) h9 (Value.map a24) ∧
 ∃ (n25 : Int),
 Reads Try.prog (Instr.lookup (84 : Nat) (Value.map a24) (Value.string a) false) h9 (Value.int IntKind.i64 n25) ∧
 SVC Try.prog (Instr.mapUpdate (84 : Nat) (Value.map a23) (Value.string b) (Value.int IntKind.i64 n25)) h9 fun (x26 : Unit) (h27 : Heap) =>
 ∃ (a28 : Option Nat),
 Reads Try.prog (Instr.loadAt (84 : Nat) (Value.pointer (some (Addr.mk (Array.size h) (0 : Nat) none)))) h27 (Value.map a28) ∧
 SVC Try.prog (Builtin.delete_ (Array.mk [(84 : Nat), (9 : Nat)]) (0 : Nat) (Array.mk [Value.map a28, Value.string a])) h27
 fun (v29 : Value) (h30 : Heap) => v29 = Value.tuple (Array.mk []) ∧ R (Value.tuple (Array.mk [])) h30)) := by kernel_rfl

theorem vcNew (room : Int) (h : Heap) (R : Value → Heap → Prop) :
    vcF Try.prog Try.f14 15 [] [] [.int .i64 room] h R =
(SVC Try.prog
 (Instr.storeAt (87 : Nat) (Value.pointer (some (Addr.mk ((Array.push h (Obj.map (Array.mk []) (0 : Nat))).push (Obj.map (Array.mk []) (0 : Nat))).size (0 : Nat) none)))
 (Value.agg (Array.mk [Value.map (some (Array.size h)), Value.map (some (Array.push h (Obj.map (Array.mk []) (0 : Nat))).size)])))
 (((Array.push h (Obj.map (Array.mk []) (0 : Nat))).push (Obj.map (Array.mk []) (0 : Nat))).push (Obj.cells (Array.mk [Value.map none, Value.map none]) (87 : Nat))) fun (x0 : Unit) (h1 : Heap) =>
 ∃ (I2 : Heap → Prop),
 I2 h1 ∧
 ∃ (a3 : Option Nat),
 ∃ (a4 : Option Nat),
 (∀ (h5 : Heap),
 I2 h5 →
 Reads Try.prog (Instr.loadAt (87 : Nat) (Value.pointer (some (Addr.mk ((Array.push h (Obj.map (Array.mk []) (0 : Nat))).push (Obj.map (Array.mk []) (0 : Nat))).size (0 : Nat) none))))
 h5 (Value.agg (Array.mk [Value.map a3, Value.map a4]))) ∧
 ∃ (a6 : Option Nat),
 ∃ (a7 : Option Nat),
 Reads Try.prog (Instr.loadAt (87 : Nat) (Value.pointer (some (Addr.mk ((Array.push h (Obj.map (Array.mk []) (0 : Nat))).push (Obj.map (Array.mk []) (0 : Nat))).size (0 : Nat) none))))
 h1 (Value.agg (Array.mk [Value.map a6, Value.map a7])) ∧
 HC Try.prog (46 : Nat) (Array.mk [Value.agg (Array.mk [Value.map a6, Value.map a7])]) h1 fun (v8 : Value) (h9 : Heap) =>
 ∃ (a10 : Option Nat),
 ∃ (a11 : Option Nat),
 v8 = Value.agg (Array.mk [Value.map a10, Value.map a11]) ∧
 I2 h9 ∧
 ∃ (n12 : Int),
 (∀ (h13 : Heap),
 I2 h13 →
 Reads Try.prog (Builtin.max_ (Array.mk [(3 : Nat), (3 : Nat)]) (3 : Nat) (Array.mk [Value.int IntKind.i64 room, Value.int IntKind.i64 (0 : Int)])) h13
 (Value.int IntKind.i64 n12)) ∧
 ∃ (n14 : Int),
 (∀ (h15 : Heap),
 I2 h15 →
 Reads Try.prog (Builtin.min_ (Array.mk [(3 : Nat), (3 : Nat)]) (3 : Nat) (Array.mk [Value.int IntKind.i64 n12, Value.int IntKind.i64 (4096 : Int)])) h15
 (Value.int IntKind.i64 n14)) ∧
 R (Value.pointer (some (Addr.mk (Array.size h9) (0 : Nat) none)))
 (Array.push h9
 (Obj.cells
 (Array.mk
 [Value.map a3, Value.map a4, Value.map a10, Value.map a11, Value.slice none (0 : Nat) (0 : Nat), Value.int IntKind.i64 n14, Value.bool false,
 Value.int IntKind.i64 (0 : Int), Value.int IntKind.i64 (0 : Int), Value.int IntKind.u64 (0 : Int)])
 (91 : Nat)))) := by kernel_rfl

theorem vcWrite (d : Nat) (s : ByteArray) (i : Int) (A : Option Addr) (n c : Nat) (h : Heap) (R : Value → Heap → Prop) :
    vcF Try.prog Try.f15 82 [11] [] [.pointer (some ⟨d, 0, none⟩), .string s, .int .i64 i, .slice A n c] h R =
(HC Try.prog (47 : Nat) (Array.mk [Value.pointer (some (Addr.mk d (0 : Nat) none))]) h fun (v0 : Value) (h1 : Heap) =>
 ∃ (n2 : Int),
 v0 = Value.int IntKind.i64 n2 ∧
 br (n2 != (0 : Int)) (R (Value.int IntKind.i64 n2) h1)
 (∃ (p3 : Addr),
 some (Addr.mk d (0 : Nat) none) = some p3 ∧
 ∃ (a4 : Option Nat),
 Reads Try.prog (Instr.loadAt (84 : Nat) (Value.pointer (some p3))) h1 (Value.map a4) ∧
 ∃ (n5 : Int),
 Reads Try.prog (Instr.lookup (84 : Nat) (Value.map a4) (Value.string s) false) h1 (Value.int IntKind.i64 n5) ∧
 ∃ (I6 : Int → Heap → Prop),
 br (decide ((↑n : Int) > (512 : Int))) (R (Value.int IntKind.i64 (3 : Int)) h1)
 (br (decide (i < (0 : Int)) || decide (i > n5)) (R (Value.int IntKind.i64 (1 : Int)) h1)
 (br (decide (i = n5))
 (HC Try.prog (22 : Nat) (Array.mk [Value.pointer (some (Addr.mk d (0 : Nat) none))]) h1 fun (v7 : Value) (h8 : Heap) =>
 ∃ (n9 : Int), v7 = Value.int IntKind.i64 n9 ∧ br (decide (n9 < (1 : Int))) (R (Value.int IntKind.i64 (7 : Int)) h8) (I6 (0 : Int) h8))
 (I6 (0 : Int) h1))) ∧
 ∀ (n10 : Int) (h11 : Heap),
 I6 n10 h11 →
 HC Try.prog (48 : Nat) (Array.mk [Value.pointer (some (Addr.mk d (0 : Nat) none))]) h11 fun (v12 : Value) (h13 : Heap) =>
 ∃ (b14 : Bool),
 v12 = Value.bool b14 ∧
 ∃ (h15 : Array Value),
 Blt Try.prog (98 : Nat) [((0 : Nat), Value.agg (Array.mk [Value.string s, Value.int IntKind.i64 i]))] h15 ∧
 ∃ (h16 : Array Value),
 IsZ Try.prog (98 : Nat) h16 ∧
 SVC Try.prog (Instr.storeAt (98 : Nat) (Value.pointer (some (Addr.mk (Array.size h13) (0 : Nat) none))) (Value.agg h15))
 (Array.push h13 (Obj.cells h16 (98 : Nat))) fun (x17 : Unit) (h18 : Heap) =>
 ((0 : Int) ≤ (0 : Int) ∧ (0 : Int) ≤ (↑(512 : Nat) : Int) ∧ (↑(512 : Nat) : Int) ≤ (↑(512 : Nat) : Int) ∧ (↑(512 : Nat) : Int) ≤ (↑(512 : Nat) : Int)) ∧
 SVC Try.prog
 (Builtin.copy_ (Array.mk [(22 : Nat), (22 : Nat)]) (3 : Nat)
 (Array.mk
 [Value.slice (subA (some ((Addr.mk (Array.size h13) (0 : Nat) none).add (2 : Nat))) (0 : Nat) (512 : Nat) (1 : Nat)) (512 : Nat) (512 : Nat),
 Value.slice A n c]))
 h18 fun (v19 : Value) (h20 : Heap) =>
 ∃ (n21 : Int),
 v19 = Value.int IntKind.i64 n21 ∧
 ∃ (p22 : Addr),
 some (Addr.mk d (0 : Nat) none) = some p22 ∧
 ∃ (a23 : Option Nat),
 ∃ (a24 : Option Nat),
 Reads Try.prog (Instr.loadAt (87 : Nat) (Value.pointer (some p22))) h20 (Value.agg (Array.mk [Value.map a23, Value.map a24])) ∧
 ∃ (s25 : ByteArray),
 ∃ (n26 : Int),
 Reads Try.prog (Instr.loadAt (94 : Nat) (Value.pointer (some (Addr.mk (Array.size h13) (0 : Nat) none)))) h20
 (Value.agg (Array.mk [Value.string s25, Value.int IntKind.i64 n26])) ∧
 ∃ (h27 : Array Value),
 Reads Try.prog (Instr.loadAt (96 : Nat) (Value.pointer (some ((Addr.mk (Array.size h13) (0 : Nat) none).add (2 : Nat))))) h20
 (Value.agg h27) ∧
 HC Try.prog (49 : Nat)
 (Array.mk
 [Value.agg (Array.mk [Value.map a23, Value.map a24]), Value.agg (Array.mk [Value.string s25, Value.int IntKind.i64 n26]),
 Value.agg h27])
 h20 fun (v28 : Value) (h29 : Heap) =>
 v28 = Value.tuple (Array.mk []) ∧
 ∃ (I30 : Heap → Prop),
 I30 h29 ∧
 ∃ (p31 : Addr),
 some (Addr.mk d (0 : Nat) none) = some p31 ∧
 ∃ (a32 : Option Addr),
 ∃ (k33 : Nat),
 ∃ (k34 : Nat),
 (∀ (h35 : Heap),
 I30 h35 →
 Reads Try.prog (Instr.loadAt (89 : Nat) (Value.pointer (some (p31.add (4 : Nat))))) h35
 (Value.slice a32 k33 k34)) ∧
 ∃ (h36 : Array Value),
 Reads Try.prog (Instr.loadAt (98 : Nat) (Value.pointer (some (Addr.mk (Array.size h13) (0 : Nat) none))))
 h29 (Value.agg h36) ∧
 SVC Try.prog (Instr.buildSlice (89 : Nat) (1 : Nat) (Array.mk [((0 : Nat), Value.agg h36)])) h29
 fun (v37 : Value) (h38 : Heap) =>
 ∃ (a39 : Option Addr),
 ∃ (k40 : Nat),
 ∃ (k41 : Nat),
 v37 = Value.slice a39 k40 k41 ∧
 I30 h38 ∧
 SVC Try.prog
 (Builtin.append_ (Array.mk [(89 : Nat), (89 : Nat)]) (89 : Nat)
 (Array.mk [Value.slice a32 k33 k34, Value.slice a39 k40 k41]))
 h38 fun (v42 : Value) (h43 : Heap) =>
 ∃ (a44 : Option Addr),
 ∃ (k45 : Nat),
 ∃ (k46 : Nat),
 v42 = Value.slice a44 k45 k46 ∧
 ∃ (p47 : Addr),
 some (Addr.mk d (0 : Nat) none) = some p47 ∧
 SVC Try.prog
 (Instr.storeAt (89 : Nat) (Value.pointer (some (p47.add (4 : Nat))))
 (Value.slice a44 k45 k46))
 h43 fun (x48 : Unit) (h49 : Heap) =>
 br b14
 (∃ (p50 : Addr),
 some (Addr.mk d (0 : Nat) none) = some p50 ∧
 ∃ (n51 : Int),
 Reads Try.prog
 (Instr.loadAt (34 : Nat)
 (Value.pointer (some (p50.add (9 : Nat)))))
 h49 (Value.int IntKind.u64 n51) ∧
 HC Try.prog (19 : Nat)
 (Array.mk
 [Value.pointer (some (Addr.mk d (0 : Nat) none)),
 Value.int IntKind.u64 n51])
 h49 fun (v52 : Value) (h53 : Heap) =>
 v52 = Value.tuple (Array.mk []) ∧
 R (Value.int IntKind.i64 (8 : Int)) h53)
 (R (Value.int IntKind.i64 (0 : Int)) h49))) := by kernel_rfl

theorem vcRead (d : Nat) (s : ByteArray) (i : Int) (h : Heap) (R : Value → Heap → Prop) :
    vcF Try.prog Try.f16 38 [] [] [.pointer (some ⟨d, 0, none⟩), .string s, .int .i64 i] h R =
(HC Try.prog (47 : Nat) (Array.mk [Value.pointer (some (Addr.mk d (0 : Nat) none))]) h fun (v0 : Value) (h1 : Heap) =>
 ∃ (n2 : Int),
 v0 = Value.int IntKind.i64 n2 ∧
 br (n2 != (0 : Int)) (R (Value.tuple (Array.mk [Value.slice none (0 : Nat) (0 : Nat), Value.int IntKind.i64 n2])) h1)
 (∃ (p3 : Addr),
 ((!decide (i < (0 : Int))) = true → some (Addr.mk d (0 : Nat) none) = some p3) ∧
 ∃ (a4 : Option Nat),
 ((!decide (i < (0 : Int))) = true → Reads Try.prog (Instr.loadAt (84 : Nat) (Value.pointer (some p3))) h1 (Value.map a4)) ∧
 ∃ (n5 : Int),
 ((!decide (i < (0 : Int))) = true → Reads Try.prog (Instr.lookup (84 : Nat) (Value.map a4) (Value.string s) false) h1 (Value.int IntKind.i64 n5)) ∧
 br (decide (i < (0 : Int)) || decide (i ≥ n5)) (R (Value.tuple (Array.mk [Value.slice none (0 : Nat) (0 : Nat), Value.int IntKind.i64 (5 : Int)])) h1)
 (∃ (p6 : Addr),
 some (Addr.mk d (0 : Nat) none) = some p6 ∧
 ∃ (a7 : Option Nat),
 Reads Try.prog (Instr.loadAt (85 : Nat) (Value.pointer (some (p6.add (1 : Nat))))) h1 (Value.map a7) ∧
 ∃ (h8 : Array Value),
 Reads Try.prog (Instr.lookup (85 : Nat) (Value.map a7) (Value.agg (Array.mk [Value.string s, Value.int IntKind.i64 i])) false) h1 (Value.agg h8) ∧
 ∃ (h9 : Array Value),
 IsZ Try.prog (96 : Nat) h9 ∧
 SVC Try.prog (Instr.storeAt (96 : Nat) (Value.pointer (some (Addr.mk (Array.size h1) (0 : Nat) none))) (Value.agg h8)) (Array.push h1 (Obj.cells h9 (96 : Nat)))
 fun (x10 : Unit) (h11 : Heap) =>
 ((0 : Int) ≤ (0 : Int) ∧ (0 : Int) ≤ (↑(512 : Nat) : Int) ∧ (↑(512 : Nat) : Int) ≤ (↑(512 : Nat) : Int) ∧ (↑(512 : Nat) : Int) ≤ (↑(512 : Nat) : Int)) ∧
 R
 (Value.tuple
 (Array.mk
 [Value.slice (subA (some (Addr.mk (Array.size h1) (0 : Nat) none)) (0 : Nat) (512 : Nat) (1 : Nat)) (512 : Nat) (512 : Nat),
 Value.int IntKind.i64 (0 : Int)]))
 h11))) := by kernel_rfl
end Go.Proofs.Ytembbemljejjbaa
