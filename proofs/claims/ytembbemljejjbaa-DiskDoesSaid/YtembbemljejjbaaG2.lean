/-
  What a call of each function comes to, as the symbolic run tells it: by the kernel's own reckoning. Conditions: none.
-/
import Derived.Test.YtembbemljejjbaaVcE
import Derived.Test.YtembbemljejjbaaProg
import Derived.KernelRfl
set_option linter.unusedVariables false
set_option maxRecDepth 100000
namespace Go.Proofs.Ytembbemljejjbaa
open Go Go.Vc Go.Proofs

theorem vcOff (d : Nat) (keep : Int) (h : Heap) (R : Value → Heap → Prop) :
    vcF Try.prog Try.f19 83 [] [] [.pointer (some ⟨d, 0, none⟩), .int .u64 keep] h R =
(HC Try.prog (47 : Nat) (Array.mk [Value.pointer (some (Addr.mk d (0 : Nat) none))]) h fun (v0 : Value) (h1 : Heap) =>
 ∃ (n2 : Int),
 v0 = Value.int IntKind.i64 n2 ∧
 br (n2 != (0 : Int)) (R (Value.tuple (Array.mk [])) h1)
 (∃ (p3 : Addr),
 some (Addr.mk d (0 : Nat) none) = some p3 ∧
 ∃ (a4 : Option Addr),
 ∃ (k5 : Nat),
 ∃ (k6 : Nat),
 Reads Try.prog (Instr.loadAt (89 : Nat) (Value.pointer (some (p3.add (4 : Nat))))) h1 (Value.slice a4 k5 k6) ∧
 ∃ (I7 : Int → Heap → Prop),
 ∃ (I8 : Int → Heap → Nat),
 I7 (0 : Int) h1 ∧
 ∀ (n9 : Int) (h10 : Heap),
 I7 n9 h10 →
 br (decide (n9 < (↑k5 : Int)))
 (∃ (p11 : Addr),
 (a4 = some p11 ∧ (0 : Int) ≤ n9 ∧ n9 < (↑k5 : Int)) ∧
 ∃ (h12 : Array Value),
 Reads Try.prog (Instr.loadAt (98 : Nat) (Value.pointer (some (p11.add (n9.toNat * (514 : Nat)))))) h10 (Value.agg h12) ∧
 ∃ (h13 : Array Value),
 IsZ Try.prog (98 : Nat) h13 ∧
 SVC Try.prog (Instr.storeAt (98 : Nat) (Value.pointer (some (Addr.mk (Array.size h10) (0 : Nat) none))) (Value.agg h12))
 (Array.push h10 (Obj.cells h13 (98 : Nat))) fun (x14 : Unit) (h15 : Heap) =>
 (64 : Int) ≠ (0 : Int) ∧
 (0 : Int) ≤ n9.tmod (64 : Int) ∧
 br
 (IntKind.u64.wrap
 (↑(BitVec.ofInt (64 : Nat) (keep.fdiv ((2 : Int) ^ min (n9.tmod (64 : Int)).toNat (64 : Nat))) &&& BitVec.ofInt (64 : Nat) (1 : Int)).toNat :
 Int) ==
 (1 : Int))
 (∃ (p16 : Addr),
 some (Addr.mk d (0 : Nat) none) = some p16 ∧
 ∃ (a17 : Option Nat),
 ∃ (a18 : Option Nat),
 Reads Try.prog (Instr.loadAt (87 : Nat) (Value.pointer (some (p16.add (2 : Nat))))) h15
 (Value.agg (Array.mk [Value.map a17, Value.map a18])) ∧
 ∃ (s19 : ByteArray),
 ∃ (n20 : Int),
 Reads Try.prog (Instr.loadAt (94 : Nat) (Value.pointer (some (Addr.mk (Array.size h10) (0 : Nat) none)))) h15
 (Value.agg (Array.mk [Value.string s19, Value.int IntKind.i64 n20])) ∧
 ∃ (h21 : Array Value),
 Reads Try.prog (Instr.loadAt (96 : Nat) (Value.pointer (some ((Addr.mk (Array.size h10) (0 : Nat) none).add (2 : Nat))))) h15
 (Value.agg h21) ∧
 HC Try.prog (49 : Nat)
 (Array.mk
 [Value.agg (Array.mk [Value.map a17, Value.map a18]), Value.agg (Array.mk [Value.string s19, Value.int IntKind.i64 n20]),
 Value.agg h21])
 h15 fun (v22 : Value) (h23 : Heap) =>
 v22 = Value.tuple (Array.mk []) ∧
 I7 (IntKind.i64.wrap (n9 + (1 : Int))) h23 ∧ I8 (IntKind.i64.wrap (n9 + (1 : Int))) h23 < I8 n9 h10)
 (I7 (IntKind.i64.wrap (n9 + (1 : Int))) h15 ∧ I8 (IntKind.i64.wrap (n9 + (1 : Int))) h15 < I8 n9 h10))
 (∃ (p24 : Addr),
 some (Addr.mk d (0 : Nat) none) = some p24 ∧
 ∃ (a25 : Option Nat),
 Reads Try.prog (Instr.loadAt (84 : Nat) (Value.pointer (some p24))) h10 (Value.map a25) ∧
 SVC Try.prog (Instr.range (84 : Nat) (Value.map a25)) h10 fun (v26 : Value) (h27 : Heap) =>
 ∃ (a28 : Option Addr),
 v26 = Value.pointer a28 ∧
 ∃ (I29 : Heap → Prop),
 ∃ (I30 : Heap → Nat),
 I29 h27 ∧
 ∀ (h31 : Heap),
 I29 h31 →
 SVC Try.prog (Instr.next (Value.pointer a28) false (0 : Nat)) h31 fun (v32 : Value) (h33 : Heap) =>
 (v32 = Value.tuple (Array.mk [Value.bool false]) ∧
 ∃ (p34 : Addr),
 some (Addr.mk d (0 : Nat) none) = some p34 ∧
 ∃ (a35 : Option Nat),
 ∃ (a36 : Option Nat),
 Reads Try.prog (Instr.loadAt (87 : Nat) (Value.pointer (some (p34.add (2 : Nat))))) h33
 (Value.agg (Array.mk [Value.map a35, Value.map a36])) ∧
 HC Try.prog (46 : Nat) (Array.mk [Value.agg (Array.mk [Value.map a35, Value.map a36])]) h33 fun (v37 : Value) (h38 : Heap) =>
 ∃ (a39 : Option Nat),
 ∃ (a40 : Option Nat),
 v37 = Value.agg (Array.mk [Value.map a39, Value.map a40]) ∧
 ∃ (p41 : Addr),
 some (Addr.mk d (0 : Nat) none) = some p41 ∧
 SVC Try.prog
 (Instr.storeAt (87 : Nat) (Value.pointer (some p41)) (Value.agg (Array.mk [Value.map a39, Value.map a40]))) h38
 fun (x42 : Unit) (h43 : Heap) =>
 ∃ (p44 : Addr),
 some (Addr.mk d (0 : Nat) none) = some p44 ∧
 SVC Try.prog
 (Instr.storeAt (89 : Nat) (Value.pointer (some (p44.add (4 : Nat)))) (Value.slice none (0 : Nat) (0 : Nat)))
 h43 fun (x45 : Unit) (h46 : Heap) =>
 ∃ (p47 : Addr),
 some (Addr.mk d (0 : Nat) none) = some p47 ∧
 SVC Try.prog (Instr.storeAt (4 : Nat) (Value.pointer (some (p47.add (6 : Nat)))) (Value.bool true)) h46
 fun (x48 : Unit) (h49 : Heap) =>
 ∃ (p50 : Addr),
 some (Addr.mk d (0 : Nat) none) = some p50 ∧
 SVC Try.prog
 (Instr.storeAt (3 : Nat) (Value.pointer (some (p50.add (8 : Nat))))
 (Value.int IntKind.i64 (0 : Int)))
 h49 fun (x51 : Unit) (h52 : Heap) => R (Value.tuple (Array.mk [])) h52) ∨
 ∃ (v53 : Value),
 ∃ (v54 : Value),
 v32 = Value.tuple (Array.mk [Value.bool true, v53, v54]) ∧
 ∃ (s55 : ByteArray),
 ∃ (v56 : Value),
 Reads Try.prog (Instr.entry (Value.pointer a28)) h33 (Value.tuple (Array.mk [Value.string s55, v56])) ∧
 ∃ (p57 : Addr),
 some (Addr.mk d (0 : Nat) none) = some p57 ∧
 ∃ (a58 : Option Nat),
 Reads Try.prog (Instr.loadAt (84 : Nat) (Value.pointer (some (p57.add (2 : Nat))))) h33 (Value.map a58) ∧
 ∃ (n59 : Int),
 ∃ (b60 : Bool),
 Reads Try.prog (Instr.lookup (84 : Nat) (Value.map a58) (Value.string s55) true) h33
 (Value.tuple (Array.mk [Value.int IntKind.i64 n59, Value.bool b60])) ∧
 br (!b60)
 (∃ (p61 : Addr),
 some (Addr.mk d (0 : Nat) none) = some p61 ∧
 ∃ (a62 : Option Nat),
 Reads Try.prog (Instr.loadAt (84 : Nat) (Value.pointer (some (p61.add (2 : Nat))))) h33 (Value.map a62) ∧
 SVC Try.prog
 (Instr.mapUpdate (84 : Nat) (Value.map a62) (Value.string s55) (Value.int IntKind.i64 (0 : Int))) h33
 fun (x63 : Unit) (h64 : Heap) => I29 h64 ∧ I30 h64 < I30 h31)
 (I29 h33 ∧ I30 h33 < I30 h31)))) := by kernel_rfl

theorem vcOn (d : Nat) (h : Heap) (R : Value → Heap → Prop) :
    vcF Try.prog Try.f20 7 [] [] [.pointer (some ⟨d, 0, none⟩)] h R =
(∃ (b0 : Bool),
 Reads Try.prog (eqSem BinOp.neq (24 : Nat) (Operand.tmp (2 : Nat)) (Operand.const (Value.pointer none)) (Value.pointer (some (Addr.mk d (0 : Nat) none))) (Value.pointer none)) h (Value.bool b0) ∧
 br b0
 (∃ (p1 : Addr),
 some (Addr.mk d (0 : Nat) none) = some p1 ∧
 SVC Try.prog (Instr.storeAt (4 : Nat) (Value.pointer (some (p1.add (6 : Nat)))) (Value.bool false)) h fun (x2 : Unit) (h3 : Heap) => R (Value.tuple (Array.mk [])) h3)
 (R (Value.tuple (Array.mk [])) h)) := by kernel_rfl

theorem vcArm (d : Nat) (n keep : Int) (h : Heap) (R : Value → Heap → Prop) :
    vcF Try.prog Try.f18 17 [] [] [.pointer (some ⟨d, 0, none⟩), .int .i64 n, .int .u64 keep] h R =
(∃ (b0 : Bool),
 Reads Try.prog (eqSem BinOp.neq (24 : Nat) (Operand.tmp (6 : Nat)) (Operand.const (Value.pointer none)) (Value.pointer (some (Addr.mk d (0 : Nat) none))) (Value.pointer none)) h (Value.bool b0) ∧
 br b0
 (∃ (n1 : Int),
 Reads Try.prog (Builtin.max_ (Array.mk [(3 : Nat), (3 : Nat)]) (3 : Nat) (Array.mk [Value.int IntKind.i64 n, Value.int IntKind.i64 (0 : Int)])) h (Value.int IntKind.i64 n1) ∧
 ∃ (p2 : Addr),
 some (Addr.mk d (0 : Nat) none) = some p2 ∧
 SVC Try.prog (Instr.storeAt (3 : Nat) (Value.pointer (some (p2.add (8 : Nat)))) (Value.int IntKind.i64 n1)) h fun (x3 : Unit) (h4 : Heap) =>
 ∃ (p5 : Addr),
 some (Addr.mk d (0 : Nat) none) = some p5 ∧
 SVC Try.prog (Instr.storeAt (34 : Nat) (Value.pointer (some (p5.add (9 : Nat)))) (Value.int IntKind.u64 keep)) h4 fun (x6 : Unit) (h7 : Heap) => R (Value.tuple (Array.mk [])) h7)
 (R (Value.tuple (Array.mk [])) h)) := by kernel_rfl

theorem vcCount (d : Nat) (s : ByteArray) (h : Heap) (R : Value → Heap → Prop) :
    vcF Try.prog Try.f21 15 [] [] [.pointer (some ⟨d, 0, none⟩), .string s] h R =
(HC Try.prog (47 : Nat) (Array.mk [Value.pointer (some (Addr.mk d (0 : Nat) none))]) h fun (v0 : Value) (h1 : Heap) =>
 ∃ (n2 : Int),
 v0 = Value.int IntKind.i64 n2 ∧
 br (n2 != (0 : Int)) (R (Value.int IntKind.i64 (0 : Int)) h1)
 (∃ (p3 : Addr),
 some (Addr.mk d (0 : Nat) none) = some p3 ∧
 ∃ (a4 : Option Nat),
 Reads Try.prog (Instr.loadAt (84 : Nat) (Value.pointer (some p3))) h1 (Value.map a4) ∧
 ∃ (n5 : Int), Reads Try.prog (Instr.lookup (84 : Nat) (Value.map a4) (Value.string s) false) h1 (Value.int IntKind.i64 n5) ∧ R (Value.int IntKind.i64 n5) h1)) := by kernel_rfl

theorem vcHas (d : Nat) (s : ByteArray) (h : Heap) (R : Value → Heap → Prop) :
    vcF Try.prog Try.f23 21 [] [] [.pointer (some ⟨d, 0, none⟩), .string s] h R =
(HC Try.prog (47 : Nat) (Array.mk [Value.pointer (some (Addr.mk d (0 : Nat) none))]) h fun (v0 : Value) (h1 : Heap) =>
 ∃ (n2 : Int),
 v0 = Value.int IntKind.i64 n2 ∧
 br (n2 != (0 : Int)) (R (Value.bool false) h1)
 (∃ (p3 : Addr),
 some (Addr.mk d (0 : Nat) none) = some p3 ∧
 ∃ (a4 : Option Nat),
 Reads Try.prog (Instr.loadAt (84 : Nat) (Value.pointer (some p3))) h1 (Value.map a4) ∧
 ∃ (n5 : Int),
 ∃ (b6 : Bool),
 Reads Try.prog (Instr.lookup (84 : Nat) (Value.map a4) (Value.string s) true) h1 (Value.tuple (Array.mk [Value.int IntKind.i64 n5, Value.bool b6])) ∧ R (Value.bool b6) h1)) := by kernel_rfl

theorem vcActs (d : Nat) (h : Heap) (R : Value → Heap → Prop) :
    vcF Try.prog Try.f30 9 [] [] [.pointer (some ⟨d, 0, none⟩)] h R =
(∃ (b0 : Bool),
 Reads Try.prog (eqSem BinOp.eql (24 : Nat) (Operand.tmp (3 : Nat)) (Operand.const (Value.pointer none)) (Value.pointer (some (Addr.mk d (0 : Nat) none))) (Value.pointer none)) h (Value.bool b0) ∧
 br b0 (R (Value.int IntKind.i64 (0 : Int)) h)
 (∃ (p1 : Addr),
 some (Addr.mk d (0 : Nat) none) = some p1 ∧
 ∃ (n2 : Int), Reads Try.prog (Instr.loadAt (3 : Nat) (Value.pointer (some (p1.add (7 : Nat))))) h (Value.int IntKind.i64 n2) ∧ R (Value.int IntKind.i64 n2) h)) := by kernel_rfl

theorem vcDown (d : Nat) (h : Heap) (R : Value → Heap → Prop) :
    vcF Try.prog Try.f31 11 [] [] [.pointer (some ⟨d, 0, none⟩)] h R =
(∃ (b0 : Bool),
 Reads Try.prog (eqSem BinOp.neq (24 : Nat) (Operand.tmp (3 : Nat)) (Operand.const (Value.pointer none)) (Value.pointer (some (Addr.mk d (0 : Nat) none))) (Value.pointer none)) h (Value.bool b0) ∧
 ∃ (p1 : Addr),
 (b0 = true → some (Addr.mk d (0 : Nat) none) = some p1) ∧
 ∃ (b2 : Bool), (b0 = true → Reads Try.prog (Instr.loadAt (4 : Nat) (Value.pointer (some (p1.add (6 : Nat))))) h (Value.bool b2)) ∧ R (Value.bool (b0 && b2)) h) := by kernel_rfl

theorem vcSync (d : Nat) (s : ByteArray) (h : Heap) (R : Value → Heap → Prop) :
    vcF Try.prog Try.f17 15 [] [] [.pointer (some ⟨d, 0, none⟩), .string s] h R =
(HC Try.prog (50 : Nat) (Array.mk [Value.pointer (some (Addr.mk d (0 : Nat) none)), Value.string s, Value.func (Fn.func (51 : Nat)) (Array.mk []) (Array.mk [])]) h fun (v0 : Value) (h1 : Heap) =>
 ∃ (n2 : Int),
 v0 = Value.int IntKind.i64 n2 ∧
 br (n2 == (0 : Int))
 (HC Try.prog (52 : Nat) (Array.mk [Value.pointer (some (Addr.mk d (0 : Nat) none)), Value.string s]) h1 fun (v3 : Value) (h4 : Heap) =>
 v3 = Value.tuple (Array.mk []) ∧ R (Value.int IntKind.i64 n2) h4)
 (R (Value.int IntKind.i64 n2) h1)) := by kernel_rfl

theorem vcCut (d : Nat) (s : ByteArray) (n : Int) (h : Heap) (R : Value → Heap → Prop) :
    vcF Try.prog Try.f24 64 [11] [] [.pointer (some ⟨d, 0, none⟩), .string s, .int .i64 n] h R =
(HC Try.prog (47 : Nat) (Array.mk [Value.pointer (some (Addr.mk d (0 : Nat) none))])
 ((Array.push h (Obj.cells (Array.mk [Value.string s]) (9 : Nat))).push (Obj.cells (Array.mk [Value.int IntKind.i64 n]) (3 : Nat))) fun (v0 : Value) (h1 : Heap) =>
 ∃ (n2 : Int),
 v0 = Value.int IntKind.i64 n2 ∧
 br (n2 != (0 : Int)) (R (Value.int IntKind.i64 n2) h1)
 (∃ (s3 : ByteArray),
 Reads Try.prog (Instr.loadAt (9 : Nat) (Value.pointer (some (Addr.mk (Array.size h) (0 : Nat) none)))) h1 (Value.string s3) ∧
 HC Try.prog (23 : Nat) (Array.mk [Value.pointer (some (Addr.mk d (0 : Nat) none)), Value.string s3]) h1 fun (v4 : Value) (h5 : Heap) =>
 ∃ (b6 : Bool),
 v4 = Value.bool b6 ∧
 ∃ (n7 : Int),
 (b6 = true →
 Reads Try.prog (Instr.loadAt (3 : Nat) (Value.pointer (some (Addr.mk (Array.push h (Obj.cells (Array.mk [Value.string s]) (9 : Nat))).size (0 : Nat) none)))) h5
 (Value.int IntKind.i64 n7)) ∧
 br (b6 && decide (n7 < (0 : Int))) (R (Value.int IntKind.i64 (1 : Int)) h5)
 (∃ (s8 : ByteArray),
 Reads Try.prog (Instr.loadAt (9 : Nat) (Value.pointer (some (Addr.mk (Array.size h) (0 : Nat) none)))) h5 (Value.string s8) ∧
 HC Try.prog (50 : Nat)
 (Array.mk
 [Value.pointer (some (Addr.mk d (0 : Nat) none)), Value.string s8,
 Value.func (Fn.func (53 : Nat)) (Array.mk [])
 (Array.mk
 [Value.pointer (some (Addr.mk (Array.size h) (0 : Nat) none)),
 Value.pointer (some (Addr.mk (Array.push h (Obj.cells (Array.mk [Value.string s]) (9 : Nat))).size (0 : Nat) none))])])
 h5 fun (v9 : Value) (h10 : Heap) =>
 ∃ (n11 : Int),
 v9 = Value.int IntKind.i64 n11 ∧
 br (n11 == (0 : Int))
 (∃ (I12 : Heap → Prop),
 (∃ (p13 : Addr),
 some (Addr.mk d (0 : Nat) none) = some p13 ∧
 ∃ (a14 : Option Nat),
 Reads Try.prog (Instr.loadAt (84 : Nat) (Value.pointer (some (p13.add (2 : Nat))))) h10 (Value.map a14) ∧
 ∃ (s15 : ByteArray),
 Reads Try.prog (Instr.loadAt (9 : Nat) (Value.pointer (some (Addr.mk (Array.size h) (0 : Nat) none)))) h10 (Value.string s15) ∧
 ∃ (n16 : Int),
 ∃ (b17 : Bool),
 Reads Try.prog (Instr.lookup (84 : Nat) (Value.map a14) (Value.string s15) true) h10
 (Value.tuple (Array.mk [Value.int IntKind.i64 n16, Value.bool b17])) ∧
 br (!b17)
 (∃ (p18 : Addr),
 some (Addr.mk d (0 : Nat) none) = some p18 ∧
 ∃ (a19 : Option Nat),
 Reads Try.prog (Instr.loadAt (84 : Nat) (Value.pointer (some (p18.add (2 : Nat))))) h10 (Value.map a19) ∧
 ∃ (s20 : ByteArray),
 Reads Try.prog (Instr.loadAt (9 : Nat) (Value.pointer (some (Addr.mk (Array.size h) (0 : Nat) none)))) h10 (Value.string s20) ∧
 SVC Try.prog (Instr.mapUpdate (84 : Nat) (Value.map a19) (Value.string s20) (Value.int IntKind.i64 (0 : Int))) h10
 fun (x21 : Unit) (h22 : Heap) => I12 h22)
 (I12 h10)) ∧
 ∀ (h23 : Heap),
 I12 h23 →
 ∃ (p24 : Addr),
 some (Addr.mk d (0 : Nat) none) = some p24 ∧
 ∃ (a25 : Option Nat),
 ∃ (a26 : Option Nat),
 Reads Try.prog (Instr.loadAt (87 : Nat) (Value.pointer (some (p24.add (2 : Nat))))) h23 (Value.agg (Array.mk [Value.map a25, Value.map a26])) ∧
 ∃ (s27 : ByteArray),
 Reads Try.prog (Instr.loadAt (9 : Nat) (Value.pointer (some (Addr.mk (Array.size h) (0 : Nat) none)))) h23 (Value.string s27) ∧
 ∃ (n28 : Int),
 Reads Try.prog
 (Instr.loadAt (3 : Nat)
 (Value.pointer (some (Addr.mk (Array.push h (Obj.cells (Array.mk [Value.string s]) (9 : Nat))).size (0 : Nat) none))))
 h23 (Value.int IntKind.i64 n28) ∧
 HC Try.prog (54 : Nat) (Array.mk [Value.agg (Array.mk [Value.map a25, Value.map a26]), Value.string s27, Value.int IntKind.i64 n28]) h23
 fun (v29 : Value) (h30 : Heap) =>
 v29 = Value.tuple (Array.mk []) ∧
 ∃ (p31 : Addr),
 some (Addr.mk d (0 : Nat) none) = some p31 ∧
 ∃ (a32 : Option Addr),
 ∃ (k33 : Nat),
 ∃ (k34 : Nat),
 Reads Try.prog (Instr.loadAt (89 : Nat) (Value.pointer (some (p31.add (4 : Nat))))) h30 (Value.slice a32 k33 k34) ∧
 HC Try.prog (55 : Nat)
 (Array.mk
 [Value.slice a32 k33 k34,
 Value.func (Fn.func (56 : Nat)) (Array.mk [])
 (Array.mk
 [Value.pointer (some (Addr.mk (Array.size h) (0 : Nat) none)),
 Value.pointer
 (some (Addr.mk (Array.push h (Obj.cells (Array.mk [Value.string s]) (9 : Nat))).size (0 : Nat) none))])])
 h30 fun (v35 : Value) (h36 : Heap) =>
 ∃ (a37 : Option Addr),
 ∃ (k38 : Nat),
 ∃ (k39 : Nat),
 v35 = Value.slice a37 k38 k39 ∧
 ∃ (p40 : Addr),
 some (Addr.mk d (0 : Nat) none) = some p40 ∧
 SVC Try.prog (Instr.storeAt (89 : Nat) (Value.pointer (some (p40.add (4 : Nat)))) (Value.slice a37 k38 k39))
 h36 fun (x41 : Unit) (h42 : Heap) => R (Value.int IntKind.i64 n11) h42)
 (R (Value.int IntKind.i64 n11) h10)))) := by kernel_rfl

theorem vcRemove (d : Nat) (s : ByteArray) (h : Heap) (R : Value → Heap → Prop) :
    vcF Try.prog Try.f25 30 [] [] [.pointer (some ⟨d, 0, none⟩), .string s] h R =
(∃ (s0 : ByteArray),
 Reads Try.prog (Instr.loadAt (9 : Nat) (Value.pointer (some (Addr.mk (Array.size h) (0 : Nat) none)))) (Array.push h (Obj.cells (Array.mk [Value.string s]) (9 : Nat))) (Value.string s0) ∧
 HC Try.prog (50 : Nat)
 (Array.mk
 [Value.pointer (some (Addr.mk d (0 : Nat) none)), Value.string s0, Value.func (Fn.func (57 : Nat)) (Array.mk []) (Array.mk [Value.pointer (some (Addr.mk (Array.size h) (0 : Nat) none))])])
 (Array.push h (Obj.cells (Array.mk [Value.string s]) (9 : Nat))) fun (v1 : Value) (h2 : Heap) =>
 ∃ (n3 : Int),
 v1 = Value.int IntKind.i64 n3 ∧
 br (n3 == (0 : Int))
 (∃ (p4 : Addr),
 some (Addr.mk d (0 : Nat) none) = some p4 ∧
 ∃ (a5 : Option Nat),
 ∃ (a6 : Option Nat),
 Reads Try.prog (Instr.loadAt (87 : Nat) (Value.pointer (some (p4.add (2 : Nat))))) h2 (Value.agg (Array.mk [Value.map a5, Value.map a6])) ∧
 HC Try.prog (57 : Nat) (Array.mk [Value.agg (Array.mk [Value.map a5, Value.map a6]), Value.pointer (some (Addr.mk (Array.size h) (0 : Nat) none))]) h2
 fun (v7 : Value) (h8 : Heap) =>
 v7 = Value.tuple (Array.mk []) ∧
 ∃ (p9 : Addr),
 some (Addr.mk d (0 : Nat) none) = some p9 ∧
 ∃ (a10 : Option Addr),
 ∃ (k11 : Nat),
 ∃ (k12 : Nat),
 Reads Try.prog (Instr.loadAt (89 : Nat) (Value.pointer (some (p9.add (4 : Nat))))) h8 (Value.slice a10 k11 k12) ∧
 HC Try.prog (55 : Nat)
 (Array.mk [Value.slice a10 k11 k12, Value.func (Fn.func (58 : Nat)) (Array.mk []) (Array.mk [Value.pointer (some (Addr.mk (Array.size h) (0 : Nat) none))])]) h8
 fun (v13 : Value) (h14 : Heap) =>
 ∃ (a15 : Option Addr),
 ∃ (k16 : Nat),
 ∃ (k17 : Nat),
 v13 = Value.slice a15 k16 k17 ∧
 ∃ (p18 : Addr),
 some (Addr.mk d (0 : Nat) none) = some p18 ∧
 SVC Try.prog (Instr.storeAt (89 : Nat) (Value.pointer (some (p18.add (4 : Nat)))) (Value.slice a15 k16 k17)) h14 fun (x19 : Unit) (h20 : Heap) =>
 R (Value.int IntKind.i64 n3) h20)
 (R (Value.int IntKind.i64 n3) h2)) := by kernel_rfl

theorem vcRename (d : Nat) (s t : ByteArray) (h : Heap) (R : Value → Heap → Prop) :
    vcF Try.prog Try.f26 77 [3] [] [.pointer (some ⟨d, 0, none⟩), .string s, .string t] h R =
(∃ (I0 : Int → Heap → Prop),
 (HC Try.prog (47 : Nat) (Array.mk [Value.pointer (some (Addr.mk d (0 : Nat) none))])
 ((Array.push h (Obj.cells (Array.mk [Value.string s]) (9 : Nat))).push (Obj.cells (Array.mk [Value.string t]) (9 : Nat))) fun (v1 : Value) (h2 : Heap) =>
 ∃ (n3 : Int),
 v1 = Value.int IntKind.i64 n3 ∧
 ∃ (s4 : ByteArray),
 ((n3 == (0 : Int)) = true → Reads Try.prog (Instr.loadAt (9 : Nat) (Value.pointer (some (Addr.mk (Array.size h) (0 : Nat) none)))) h2 (Value.string s4)) ∧
 ∃ (s5 : ByteArray),
 ((n3 == (0 : Int)) = true →
 Reads Try.prog (Instr.loadAt (9 : Nat) (Value.pointer (some (Addr.mk (Array.push h (Obj.cells (Array.mk [Value.string s]) (9 : Nat))).size (0 : Nat) none)))) h2
 (Value.string s5)) ∧
 ∃ (s6 : ByteArray),
 ((n3 == (0 : Int) && s4.toList == s5.toList) = true → Reads Try.prog (Instr.loadAt (9 : Nat) (Value.pointer (some (Addr.mk (Array.size h) (0 : Nat) none)))) h2 (Value.string s6)) ∧
 br (n3 == (0 : Int) && s4.toList == s5.toList)
 (HC Try.prog (23 : Nat) (Array.mk [Value.pointer (some (Addr.mk d (0 : Nat) none)), Value.string s6]) h2 fun (v7 : Value) (h8 : Heap) =>
 ∃ (b9 : Bool),
 v7 = Value.bool b9 ∧
 br b9
 (∃ (s10 : ByteArray),
 Reads Try.prog (Instr.loadAt (9 : Nat) (Value.pointer (some (Addr.mk (Array.size h) (0 : Nat) none)))) h8 (Value.string s10) ∧
 HC Try.prog (50 : Nat) (Array.mk [Value.pointer (some (Addr.mk d (0 : Nat) none)), Value.string s10, Value.func (Fn.func (59 : Nat)) (Array.mk []) (Array.mk [])])
 h8 fun (v11 : Value) (h12 : Heap) => ∃ (n13 : Int), v11 = Value.int IntKind.i64 n13 ∧ R (Value.int IntKind.i64 n13) h12)
 (I0 (0 : Int) h8))
 (I0 (0 : Int) h2)) ∧
 ∀ (n14 : Int) (h15 : Heap),
 I0 n14 h15 →
 ∃ (s16 : ByteArray),
 Reads Try.prog (Instr.loadAt (9 : Nat) (Value.pointer (some (Addr.mk (Array.size h) (0 : Nat) none)))) h15 (Value.string s16) ∧
 HC Try.prog (50 : Nat)
 (Array.mk
 [Value.pointer (some (Addr.mk d (0 : Nat) none)), Value.string s16,
 Value.func (Fn.func (60 : Nat)) (Array.mk [])
 (Array.mk
 [Value.pointer (some (Addr.mk (Array.size h) (0 : Nat) none)),
 Value.pointer (some (Addr.mk (Array.push h (Obj.cells (Array.mk [Value.string s]) (9 : Nat))).size (0 : Nat) none))])])
 h15 fun (v17 : Value) (h18 : Heap) =>
 ∃ (n19 : Int),
 v17 = Value.int IntKind.i64 n19 ∧
 br (n19 == (0 : Int))
 (∃ (p20 : Addr),
 some (Addr.mk d (0 : Nat) none) = some p20 ∧
 ∃ (a21 : Option Addr),
 ∃ (k22 : Nat),
 ∃ (k23 : Nat),
 Reads Try.prog (Instr.loadAt (89 : Nat) (Value.pointer (some (p20.add (4 : Nat))))) h18 (Value.slice a21 k22 k23) ∧
 HC Try.prog (55 : Nat)
 (Array.mk
 [Value.slice a21 k22 k23,
 Value.func (Fn.func (62 : Nat)) (Array.mk [])
 (Array.mk [Value.pointer (some (Addr.mk (Array.push h (Obj.cells (Array.mk [Value.string s]) (9 : Nat))).size (0 : Nat) none))])])
 h18 fun (v24 : Value) (h25 : Heap) =>
 ∃ (a26 : Option Addr),
 ∃ (k27 : Nat),
 ∃ (k28 : Nat),
 v24 = Value.slice a26 k27 k28 ∧
 ∃ (p29 : Addr),
 some (Addr.mk d (0 : Nat) none) = some p29 ∧
 SVC Try.prog (Instr.storeAt (89 : Nat) (Value.pointer (some (p29.add (4 : Nat)))) (Value.slice a26 k27 k28)) h25 fun (x30 : Unit) (h31 : Heap) =>
 ∃ (p32 : Addr),
 some (Addr.mk d (0 : Nat) none) = some p32 ∧
 ∃ (a33 : Option Addr),
 ∃ (k34 : Nat),
 ∃ (k35 : Nat),
 Reads Try.prog (Instr.loadAt (89 : Nat) (Value.pointer (some (p32.add (4 : Nat))))) h31 (Value.slice a33 k34 k35) ∧
 ∃ (I36 : Int → Heap → Prop),
 ∃ (I37 : Int → Heap → Nat),
 I36 (0 : Int) h31 ∧
 ∀ (n38 : Int) (h39 : Heap),
 I36 n38 h39 →
 br (decide (n38 < (↑k34 : Int)))
 (∃ (p40 : Addr),
 some (Addr.mk d (0 : Nat) none) = some p40 ∧
 ∃ (a41 : Option Addr),
 ∃ (k42 : Nat),
 ∃ (k43 : Nat),
 Reads Try.prog (Instr.loadAt (89 : Nat) (Value.pointer (some (p40.add (4 : Nat))))) h39 (Value.slice a41 k42 k43) ∧
 ∃ (p44 : Addr),
 (a41 = some p44 ∧ (0 : Int) ≤ n38 ∧ n38 < (↑k42 : Int)) ∧
 ∃ (s45 : ByteArray),
 Reads Try.prog (Instr.loadAt (9 : Nat) (Value.pointer (some (p44.add (n38.toNat * (514 : Nat)))))) h39
 (Value.string s45) ∧
 ∃ (s46 : ByteArray),
 Reads Try.prog (Instr.loadAt (9 : Nat) (Value.pointer (some (Addr.mk (Array.size h) (0 : Nat) none)))) h39
 (Value.string s46) ∧
 br (s45.toList == s46.toList)
 (∃ (p47 : Addr),
 some (Addr.mk d (0 : Nat) none) = some p47 ∧
 ∃ (a48 : Option Addr),
 ∃ (k49 : Nat),
 ∃ (k50 : Nat),
 Reads Try.prog (Instr.loadAt (89 : Nat) (Value.pointer (some (p47.add (4 : Nat))))) h39
 (Value.slice a48 k49 k50) ∧
 ∃ (s51 : ByteArray),
 Reads Try.prog
 (Instr.loadAt (9 : Nat)
 (Value.pointer
 (some
 (Addr.mk (Array.push h (Obj.cells (Array.mk [Value.string s]) (9 : Nat))).size
 (0 : Nat) none))))
 h39 (Value.string s51) ∧
 ∃ (p52 : Addr),
 (a48 = some p52 ∧ (0 : Int) ≤ n38 ∧ n38 < (↑k49 : Int)) ∧
 SVC Try.prog
 (Instr.storeAt (9 : Nat)
 (Value.pointer (some (p52.add (n38.toNat * (514 : Nat))))) (Value.string s51))
 h39 fun (x53 : Unit) (h54 : Heap) =>
 I36 (IntKind.i64.wrap (n38 + (1 : Int))) h54 ∧
 I37 (IntKind.i64.wrap (n38 + (1 : Int))) h54 < I37 n38 h39)
 (I36 (IntKind.i64.wrap (n38 + (1 : Int))) h39 ∧
 I37 (IntKind.i64.wrap (n38 + (1 : Int))) h39 < I37 n38 h39))
 (∃ (p55 : Addr),
 some (Addr.mk d (0 : Nat) none) = some p55 ∧
 ∃ (a56 : Option Nat),
 ∃ (a57 : Option Nat),
 Reads Try.prog (Instr.loadAt (87 : Nat) (Value.pointer (some (p55.add (2 : Nat))))) h39
 (Value.agg (Array.mk [Value.map a56, Value.map a57])) ∧
 ∃ (s58 : ByteArray),
 Reads Try.prog (Instr.loadAt (9 : Nat) (Value.pointer (some (Addr.mk (Array.size h) (0 : Nat) none)))) h39
 (Value.string s58) ∧
 ∃ (s59 : ByteArray),
 Reads Try.prog
 (Instr.loadAt (9 : Nat)
 (Value.pointer
 (some (Addr.mk (Array.push h (Obj.cells (Array.mk [Value.string s]) (9 : Nat))).size (0 : Nat) none))))
 h39 (Value.string s59) ∧
 HC Try.prog (61 : Nat)
 (Array.mk [Value.agg (Array.mk [Value.map a56, Value.map a57]), Value.string s58, Value.string s59]) h39
 fun (v60 : Value) (h61 : Heap) => v60 = Value.tuple (Array.mk []) ∧ R (Value.int IntKind.i64 n19) h61))
 (R (Value.int IntKind.i64 n19) h18)) := by kernel_rfl

theorem vcNames (d : Nat) (h : Heap) (R : Value → Heap → Prop) :
    vcF Try.prog Try.f33 13 [] [] [.pointer (some ⟨d, 0, none⟩)] h R =
(HC Try.prog (47 : Nat) (Array.mk [Value.pointer (some (Addr.mk d (0 : Nat) none))]) h fun (v0 : Value) (h1 : Heap) =>
 ∃ (n2 : Int),
 v0 = Value.int IntKind.i64 n2 ∧
 br (n2 != (0 : Int)) (R (Value.slice none (0 : Nat) (0 : Nat)) h1)
 (∃ (p3 : Addr),
 some (Addr.mk d (0 : Nat) none) = some p3 ∧
 ∃ (a4 : Option Nat),
 Reads Try.prog (Instr.loadAt (84 : Nat) (Value.pointer (some p3))) h1 (Value.map a4) ∧
 HC Try.prog (72 : Nat) (Array.mk [Value.map a4]) h1 fun (v5 : Value) (h6 : Heap) =>
 ∃ (v7 : Value),
 v5 = v7 ∧
 HC Try.prog (71 : Nat) (Array.mk [v7]) h6 fun (v8 : Value) (h9 : Heap) =>
 ∃ (a10 : Option Addr), ∃ (k11 : Nat), ∃ (k12 : Nat), v8 = Value.slice a10 k11 k12 ∧ R (Value.slice a10 k11 k12) h9)) := by kernel_rfl

theorem vcSettle (d : Nat) (s : ByteArray) (h : Heap) (R : Value → Heap → Prop) :
    vcF Try.prog Try.f52 54 [] [] [.pointer (some ⟨d, 0, none⟩), .string s] h R =
(∃ (p0 : Addr),
 some (Addr.mk d (0 : Nat) none) = some p0 ∧
 ∃ (a1 : Option Nat),
 ∃ (a2 : Option Nat),
 Reads Try.prog (Instr.loadAt (87 : Nat) (Value.pointer (some (p0.add (2 : Nat))))) (Array.push h (Obj.cells (Array.mk [Value.string s]) (9 : Nat)))
 (Value.agg (Array.mk [Value.map a1, Value.map a2])) ∧
 ∃ (s3 : ByteArray),
 Reads Try.prog (Instr.loadAt (9 : Nat) (Value.pointer (some (Addr.mk (Array.size h) (0 : Nat) none)))) (Array.push h (Obj.cells (Array.mk [Value.string s]) (9 : Nat))) (Value.string s3) ∧
 HC Try.prog (54 : Nat) (Array.mk [Value.agg (Array.mk [Value.map a1, Value.map a2]), Value.string s3, Value.int IntKind.i64 (0 : Int)])
 (Array.push h (Obj.cells (Array.mk [Value.string s]) (9 : Nat))) fun (v4 : Value) (h5 : Heap) =>
 v4 = Value.tuple (Array.mk []) ∧
 ∃ (p6 : Addr),
 some (Addr.mk d (0 : Nat) none) = some p6 ∧
 ∃ (a7 : Option Nat),
 Reads Try.prog (Instr.loadAt (84 : Nat) (Value.pointer (some (p6.add (2 : Nat))))) h5 (Value.map a7) ∧
 ∃ (s8 : ByteArray),
 Reads Try.prog (Instr.loadAt (9 : Nat) (Value.pointer (some (Addr.mk (Array.size h) (0 : Nat) none)))) h5 (Value.string s8) ∧
 SVC Try.prog (Instr.mapUpdate (84 : Nat) (Value.map a7) (Value.string s8) (Value.int IntKind.i64 (0 : Int))) h5 fun (x9 : Unit) (h10 : Heap) =>
 ∃ (p11 : Addr),
 some (Addr.mk d (0 : Nat) none) = some p11 ∧
 ∃ (a12 : Option Nat),
 Reads Try.prog (Instr.loadAt (84 : Nat) (Value.pointer (some p11))) h10 (Value.map a12) ∧
 ∃ (s13 : ByteArray),
 Reads Try.prog (Instr.loadAt (9 : Nat) (Value.pointer (some (Addr.mk (Array.size h) (0 : Nat) none)))) h10 (Value.string s13) ∧
 ∃ (n14 : Int),
 Reads Try.prog (Instr.lookup (84 : Nat) (Value.map a12) (Value.string s13) false) h10 (Value.int IntKind.i64 n14) ∧
 ∃ (I15 : Int → Heap → Prop),
 ∃ (I16 : Int → Heap → Nat),
 I15 (0 : Int) h10 ∧
 ∀ (n17 : Int) (h18 : Heap),
 I15 n17 h18 →
 br (decide (n17 < n14))
 (∃ (p19 : Addr),
 some (Addr.mk d (0 : Nat) none) = some p19 ∧
 ∃ (a20 : Option Nat),
 ∃ (a21 : Option Nat),
 Reads Try.prog (Instr.loadAt (87 : Nat) (Value.pointer (some (p19.add (2 : Nat))))) h18
 (Value.agg (Array.mk [Value.map a20, Value.map a21])) ∧
 ∃ (s22 : ByteArray),
 Reads Try.prog (Instr.loadAt (9 : Nat) (Value.pointer (some (Addr.mk (Array.size h) (0 : Nat) none)))) h18 (Value.string s22) ∧
 ∃ (p23 : Addr),
 some (Addr.mk d (0 : Nat) none) = some p23 ∧
 ∃ (a24 : Option Nat),
 Reads Try.prog (Instr.loadAt (85 : Nat) (Value.pointer (some (p23.add (1 : Nat))))) h18 (Value.map a24) ∧
 ∃ (s25 : ByteArray),
 Reads Try.prog (Instr.loadAt (9 : Nat) (Value.pointer (some (Addr.mk (Array.size h) (0 : Nat) none)))) h18
 (Value.string s25) ∧
 ∃ (h26 : Array Value),
 Reads Try.prog
 (Instr.lookup (85 : Nat) (Value.map a24)
 (Value.agg (Array.mk [Value.string s25, Value.int IntKind.i64 n17])) false)
 h18 (Value.agg h26) ∧
 HC Try.prog (49 : Nat)
 (Array.mk
 [Value.agg (Array.mk [Value.map a20, Value.map a21]),
 Value.agg (Array.mk [Value.string s22, Value.int IntKind.i64 n17]), Value.agg h26])
 h18 fun (v27 : Value) (h28 : Heap) =>
 v27 = Value.tuple (Array.mk []) ∧
 I15 (IntKind.i64.wrap (n17 + (1 : Int))) h28 ∧ I16 (IntKind.i64.wrap (n17 + (1 : Int))) h28 < I16 n17 h18)
 (∃ (p29 : Addr),
 some (Addr.mk d (0 : Nat) none) = some p29 ∧
 ∃ (a30 : Option Addr),
 ∃ (k31 : Nat),
 ∃ (k32 : Nat),
 Reads Try.prog (Instr.loadAt (89 : Nat) (Value.pointer (some (p29.add (4 : Nat))))) h18 (Value.slice a30 k31 k32) ∧
 HC Try.prog (55 : Nat)
 (Array.mk
 [Value.slice a30 k31 k32,
 Value.func (Fn.func (90 : Nat)) (Array.mk []) (Array.mk [Value.pointer (some (Addr.mk (Array.size h) (0 : Nat) none))])])
 h18 fun (v33 : Value) (h34 : Heap) =>
 ∃ (a35 : Option Addr),
 ∃ (k36 : Nat),
 ∃ (k37 : Nat),
 v33 = Value.slice a35 k36 k37 ∧
 ∃ (p38 : Addr),
 some (Addr.mk d (0 : Nat) none) = some p38 ∧
 SVC Try.prog (Instr.storeAt (89 : Nat) (Value.pointer (some (p38.add (4 : Nat)))) (Value.slice a35 k36 k37)) h34
 fun (x39 : Unit) (h40 : Heap) => R (Value.tuple (Array.mk [])) h40)) := by kernel_rfl
end Go.Proofs.Ytembbemljejjbaa
