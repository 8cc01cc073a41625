/-
  What a call of each function comes to, as the symbolic run tells it: by the kernel's own reckoning. Conditions: none.
-/
import Derived.Test.YtembbemljejjbaaVcE
import Derived.Test.YtembbemljejjbaaProg
import Derived.KernelRfl
set_option linter.unusedVariables false
set_option maxRecDepth 100000
namespace Go.Proofs.Ytembbemljejjbaa
open Go Go.Vc Go.Proofs

theorem nlOff (k : Int) (h : Heap) (R : Value → Heap → Prop) :
    vcF Try.prog Try.f19 83 [] [] [.pointer none, .int .u64 k] h R =
(HC Try.prog (47 : Nat) (Array.mk [Value.pointer none]) h fun (v0 : Value) (h1 : Heap) =>
 ∃ (n2 : Int),
 v0 = Value.int IntKind.i64 n2 ∧
 br (n2 != (0 : Int)) (R (Value.tuple (Array.mk [])) h1)
 (∃ (p3 : Addr),
 none = some p3 ∧
 ∃ (a4 : Option Addr),
 ∃ (k5 : Nat),
 ∃ (k6 : Nat),
 Reads Try.prog (Instr.loadAt (89 : Nat) (Value.pointer (some (p3.add (4 : Nat))))) h1 (Value.slice a4 k5 k6) ∧
 ∃ (I7 : Int → Heap → Prop),
 ∃ (I8 : Int → Heap → Nat),
 I7 (0 : Int) h1 ∧
 ∀ (n9 : Int) (h10 : Heap),
 I7 n9 h10 →
 br (decide (n9 < (↑k5 : Int)))
 (∃ (p11 : Addr),
 (a4 = some p11 ∧ (0 : Int) ≤ n9 ∧ n9 < (↑k5 : Int)) ∧
 ∃ (h12 : Array Value),
 Reads Try.prog (Instr.loadAt (98 : Nat) (Value.pointer (some (p11.add (n9.toNat * (514 : Nat)))))) h10 (Value.agg h12) ∧
 ∃ (h13 : Array Value),
 IsZ Try.prog (98 : Nat) h13 ∧
 SVC Try.prog (Instr.storeAt (98 : Nat) (Value.pointer (some (Addr.mk (Array.size h10) (0 : Nat) none))) (Value.agg h12))
 (Array.push h10 (Obj.cells h13 (98 : Nat))) fun (x14 : Unit) (h15 : Heap) =>
 (64 : Int) ≠ (0 : Int) ∧
 (0 : Int) ≤ n9.tmod (64 : Int) ∧
 br
 (IntKind.u64.wrap
 (↑(BitVec.ofInt (64 : Nat) (k.fdiv ((2 : Int) ^ min (n9.tmod (64 : Int)).toNat (64 : Nat))) &&& BitVec.ofInt (64 : Nat) (1 : Int)).toNat :
 Int) ==
 (1 : Int))
 (∃ (p16 : Addr),
 none = some p16 ∧
 ∃ (a17 : Option Nat),
 ∃ (a18 : Option Nat),
 Reads Try.prog (Instr.loadAt (87 : Nat) (Value.pointer (some (p16.add (2 : Nat))))) h15
 (Value.agg (Array.mk [Value.map a17, Value.map a18])) ∧
 ∃ (s19 : ByteArray),
 ∃ (n20 : Int),
 Reads Try.prog (Instr.loadAt (94 : Nat) (Value.pointer (some (Addr.mk (Array.size h10) (0 : Nat) none)))) h15
 (Value.agg (Array.mk [Value.string s19, Value.int IntKind.i64 n20])) ∧
 ∃ (h21 : Array Value),
 Reads Try.prog (Instr.loadAt (96 : Nat) (Value.pointer (some ((Addr.mk (Array.size h10) (0 : Nat) none).add (2 : Nat))))) h15
 (Value.agg h21) ∧
 HC Try.prog (49 : Nat)
 (Array.mk
 [Value.agg (Array.mk [Value.map a17, Value.map a18]), Value.agg (Array.mk [Value.string s19, Value.int IntKind.i64 n20]),
 Value.agg h21])
 h15 fun (v22 : Value) (h23 : Heap) =>
 v22 = Value.tuple (Array.mk []) ∧
 I7 (IntKind.i64.wrap (n9 + (1 : Int))) h23 ∧ I8 (IntKind.i64.wrap (n9 + (1 : Int))) h23 < I8 n9 h10)
 (I7 (IntKind.i64.wrap (n9 + (1 : Int))) h15 ∧ I8 (IntKind.i64.wrap (n9 + (1 : Int))) h15 < I8 n9 h10))
 (∃ (p24 : Addr),
 none = some p24 ∧
 ∃ (a25 : Option Nat),
 Reads Try.prog (Instr.loadAt (84 : Nat) (Value.pointer (some p24))) h10 (Value.map a25) ∧
 SVC Try.prog (Instr.range (84 : Nat) (Value.map a25)) h10 fun (v26 : Value) (h27 : Heap) =>
 ∃ (a28 : Option Addr),
 v26 = Value.pointer a28 ∧
 ∃ (I29 : Heap → Prop),
 ∃ (I30 : Heap → Nat),
 I29 h27 ∧
 ∀ (h31 : Heap),
 I29 h31 →
 SVC Try.prog (Instr.next (Value.pointer a28) false (0 : Nat)) h31 fun (v32 : Value) (h33 : Heap) =>
 (v32 = Value.tuple (Array.mk [Value.bool false]) ∧
 ∃ (p34 : Addr),
 none = some p34 ∧
 ∃ (a35 : Option Nat),
 ∃ (a36 : Option Nat),
 Reads Try.prog (Instr.loadAt (87 : Nat) (Value.pointer (some (p34.add (2 : Nat))))) h33
 (Value.agg (Array.mk [Value.map a35, Value.map a36])) ∧
 HC Try.prog (46 : Nat) (Array.mk [Value.agg (Array.mk [Value.map a35, Value.map a36])]) h33 fun (v37 : Value) (h38 : Heap) =>
 ∃ (a39 : Option Nat),
 ∃ (a40 : Option Nat),
 v37 = Value.agg (Array.mk [Value.map a39, Value.map a40]) ∧
 ∃ (p41 : Addr),
 none = some p41 ∧
 SVC Try.prog
 (Instr.storeAt (87 : Nat) (Value.pointer (some p41)) (Value.agg (Array.mk [Value.map a39, Value.map a40]))) h38
 fun (x42 : Unit) (h43 : Heap) =>
 ∃ (p44 : Addr),
 none = some p44 ∧
 SVC Try.prog
 (Instr.storeAt (89 : Nat) (Value.pointer (some (p44.add (4 : Nat)))) (Value.slice none (0 : Nat) (0 : Nat)))
 h43 fun (x45 : Unit) (h46 : Heap) =>
 ∃ (p47 : Addr),
 none = some p47 ∧
 SVC Try.prog (Instr.storeAt (4 : Nat) (Value.pointer (some (p47.add (6 : Nat)))) (Value.bool true)) h46
 fun (x48 : Unit) (h49 : Heap) =>
 ∃ (p50 : Addr),
 none = some p50 ∧
 SVC Try.prog
 (Instr.storeAt (3 : Nat) (Value.pointer (some (p50.add (8 : Nat))))
 (Value.int IntKind.i64 (0 : Int)))
 h49 fun (x51 : Unit) (h52 : Heap) => R (Value.tuple (Array.mk [])) h52) ∨
 ∃ (v53 : Value),
 ∃ (v54 : Value),
 v32 = Value.tuple (Array.mk [Value.bool true, v53, v54]) ∧
 ∃ (s55 : ByteArray),
 ∃ (v56 : Value),
 Reads Try.prog (Instr.entry (Value.pointer a28)) h33 (Value.tuple (Array.mk [Value.string s55, v56])) ∧
 ∃ (p57 : Addr),
 none = some p57 ∧
 ∃ (a58 : Option Nat),
 Reads Try.prog (Instr.loadAt (84 : Nat) (Value.pointer (some (p57.add (2 : Nat))))) h33 (Value.map a58) ∧
 ∃ (n59 : Int),
 ∃ (b60 : Bool),
 Reads Try.prog (Instr.lookup (84 : Nat) (Value.map a58) (Value.string s55) true) h33
 (Value.tuple (Array.mk [Value.int IntKind.i64 n59, Value.bool b60])) ∧
 br (!b60)
 (∃ (p61 : Addr),
 none = some p61 ∧
 ∃ (a62 : Option Nat),
 Reads Try.prog (Instr.loadAt (84 : Nat) (Value.pointer (some (p61.add (2 : Nat))))) h33 (Value.map a62) ∧
 SVC Try.prog
 (Instr.mapUpdate (84 : Nat) (Value.map a62) (Value.string s55) (Value.int IntKind.i64 (0 : Int))) h33
 fun (x63 : Unit) (h64 : Heap) => I29 h64 ∧ I30 h64 < I30 h31)
 (I29 h33 ∧ I30 h33 < I30 h31)))) := by kernel_rfl

theorem nlOn (h : Heap) (R : Value → Heap → Prop) :
    vcF Try.prog Try.f20 7 [] [] [.pointer none] h R =
(∃ (b0 : Bool),
 Reads Try.prog (eqSem BinOp.neq (24 : Nat) (Operand.tmp (2 : Nat)) (Operand.const (Value.pointer none)) (Value.pointer none) (Value.pointer none)) h (Value.bool b0) ∧
 br b0
 (∃ (p1 : Addr),
 none = some p1 ∧ SVC Try.prog (Instr.storeAt (4 : Nat) (Value.pointer (some (p1.add (6 : Nat)))) (Value.bool false)) h fun (x2 : Unit) (h3 : Heap) => R (Value.tuple (Array.mk [])) h3)
 (R (Value.tuple (Array.mk [])) h)) := by kernel_rfl

theorem nlArm (n k : Int) (h : Heap) (R : Value → Heap → Prop) :
    vcF Try.prog Try.f18 17 [] [] [.pointer none, .int .i64 n, .int .u64 k] h R =
(∃ (b0 : Bool),
 Reads Try.prog (eqSem BinOp.neq (24 : Nat) (Operand.tmp (6 : Nat)) (Operand.const (Value.pointer none)) (Value.pointer none) (Value.pointer none)) h (Value.bool b0) ∧
 br b0
 (∃ (n1 : Int),
 Reads Try.prog (Builtin.max_ (Array.mk [(3 : Nat), (3 : Nat)]) (3 : Nat) (Array.mk [Value.int IntKind.i64 n, Value.int IntKind.i64 (0 : Int)])) h (Value.int IntKind.i64 n1) ∧
 ∃ (p2 : Addr),
 none = some p2 ∧
 SVC Try.prog (Instr.storeAt (3 : Nat) (Value.pointer (some (p2.add (8 : Nat)))) (Value.int IntKind.i64 n1)) h fun (x3 : Unit) (h4 : Heap) =>
 ∃ (p5 : Addr),
 none = some p5 ∧
 SVC Try.prog (Instr.storeAt (34 : Nat) (Value.pointer (some (p5.add (9 : Nat)))) (Value.int IntKind.u64 k)) h4 fun (x6 : Unit) (h7 : Heap) => R (Value.tuple (Array.mk [])) h7)
 (R (Value.tuple (Array.mk [])) h)) := by kernel_rfl

theorem nlRead (s : ByteArray) (i : Int) (h : Heap) (R : Value → Heap → Prop) :
    vcF Try.prog Try.f16 38 [] [] [.pointer none, .string s, .int .i64 i] h R =
(HC Try.prog (47 : Nat) (Array.mk [Value.pointer none]) h fun (v0 : Value) (h1 : Heap) =>
 ∃ (n2 : Int),
 v0 = Value.int IntKind.i64 n2 ∧
 br (n2 != (0 : Int)) (R (Value.tuple (Array.mk [Value.slice none (0 : Nat) (0 : Nat), Value.int IntKind.i64 n2])) h1)
 (∃ (p3 : Addr),
 ((!decide (i < (0 : Int))) = true → none = some p3) ∧
 ∃ (a4 : Option Nat),
 ((!decide (i < (0 : Int))) = true → Reads Try.prog (Instr.loadAt (84 : Nat) (Value.pointer (some p3))) h1 (Value.map a4)) ∧
 ∃ (n5 : Int),
 ((!decide (i < (0 : Int))) = true → Reads Try.prog (Instr.lookup (84 : Nat) (Value.map a4) (Value.string s) false) h1 (Value.int IntKind.i64 n5)) ∧
 br (decide (i < (0 : Int)) || decide (i ≥ n5)) (R (Value.tuple (Array.mk [Value.slice none (0 : Nat) (0 : Nat), Value.int IntKind.i64 (5 : Int)])) h1)
 (∃ (p6 : Addr),
 none = some p6 ∧
 ∃ (a7 : Option Nat),
 Reads Try.prog (Instr.loadAt (85 : Nat) (Value.pointer (some (p6.add (1 : Nat))))) h1 (Value.map a7) ∧
 ∃ (h8 : Array Value),
 Reads Try.prog (Instr.lookup (85 : Nat) (Value.map a7) (Value.agg (Array.mk [Value.string s, Value.int IntKind.i64 i])) false) h1 (Value.agg h8) ∧
 ∃ (h9 : Array Value),
 IsZ Try.prog (96 : Nat) h9 ∧
 SVC Try.prog (Instr.storeAt (96 : Nat) (Value.pointer (some (Addr.mk (Array.size h1) (0 : Nat) none))) (Value.agg h8)) (Array.push h1 (Obj.cells h9 (96 : Nat)))
 fun (x10 : Unit) (h11 : Heap) =>
 ((0 : Int) ≤ (0 : Int) ∧ (0 : Int) ≤ (↑(512 : Nat) : Int) ∧ (↑(512 : Nat) : Int) ≤ (↑(512 : Nat) : Int) ∧ (↑(512 : Nat) : Int) ≤ (↑(512 : Nat) : Int)) ∧
 R
 (Value.tuple
 (Array.mk
 [Value.slice (subA (some (Addr.mk (Array.size h1) (0 : Nat) none)) (0 : Nat) (512 : Nat) (1 : Nat)) (512 : Nat) (512 : Nat),
 Value.int IntKind.i64 (0 : Int)]))
 h11))) := by kernel_rfl

theorem nlWrite (s : ByteArray) (i : Int) (h : Heap) (R : Value → Heap → Prop) :
    vcF Try.prog Try.f15 82 [] [] [.pointer none, .string s, .int .i64 i, .slice none 0 0] h R =
(HC Try.prog (47 : Nat) (Array.mk [Value.pointer none]) h fun (v0 : Value) (h1 : Heap) =>
 ∃ (n2 : Int),
 v0 = Value.int IntKind.i64 n2 ∧
 br (n2 != (0 : Int)) (R (Value.int IntKind.i64 n2) h1)
 (∃ (p3 : Addr),
 none = some p3 ∧
 ∃ (a4 : Option Nat),
 Reads Try.prog (Instr.loadAt (84 : Nat) (Value.pointer (some p3))) h1 (Value.map a4) ∧
 ∃ (n5 : Int),
 Reads Try.prog (Instr.lookup (84 : Nat) (Value.map a4) (Value.string s) false) h1 (Value.int IntKind.i64 n5) ∧
 br (decide (i < (0 : Int)) || decide (i > n5)) (R (Value.int IntKind.i64 (1 : Int)) h1)
 (br (decide (i = n5))
 (HC Try.prog (22 : Nat) (Array.mk [Value.pointer none]) h1 fun (v6 : Value) (h7 : Heap) =>
 ∃ (n8 : Int),
 v6 = Value.int IntKind.i64 n8 ∧
 br (decide (n8 < (1 : Int))) (R (Value.int IntKind.i64 (7 : Int)) h7)
 (HC Try.prog (48 : Nat) (Array.mk [Value.pointer none]) h7 fun (v9 : Value) (h10 : Heap) =>
 ∃ (b11 : Bool),
 v9 = Value.bool b11 ∧
 ∃ (h12 : Array Value),
 Blt Try.prog (98 : Nat) [((0 : Nat), Value.agg (Array.mk [Value.string s, Value.int IntKind.i64 i]))] h12 ∧
 ∃ (h13 : Array Value),
 IsZ Try.prog (98 : Nat) h13 ∧
 SVC Try.prog (Instr.storeAt (98 : Nat) (Value.pointer (some (Addr.mk (Array.size h10) (0 : Nat) none))) (Value.agg h12))
 (Array.push h10 (Obj.cells h13 (98 : Nat))) fun (x14 : Unit) (h15 : Heap) =>
 ((0 : Int) ≤ (0 : Int) ∧ (0 : Int) ≤ (↑(512 : Nat) : Int) ∧ (↑(512 : Nat) : Int) ≤ (↑(512 : Nat) : Int) ∧ (↑(512 : Nat) : Int) ≤ (↑(512 : Nat) : Int)) ∧
 SVC Try.prog
 (Builtin.copy_ (Array.mk [(22 : Nat), (22 : Nat)]) (3 : Nat)
 (Array.mk
 [Value.slice (subA (some ((Addr.mk (Array.size h10) (0 : Nat) none).add (2 : Nat))) (0 : Nat) (512 : Nat) (1 : Nat)) (512 : Nat) (512 : Nat),
 Value.slice none (0 : Nat) (0 : Nat)]))
 h15 fun (v16 : Value) (h17 : Heap) =>
 ∃ (n18 : Int),
 v16 = Value.int IntKind.i64 n18 ∧
 ∃ (p19 : Addr),
 none = some p19 ∧
 ∃ (a20 : Option Nat),
 ∃ (a21 : Option Nat),
 Reads Try.prog (Instr.loadAt (87 : Nat) (Value.pointer (some p19))) h17 (Value.agg (Array.mk [Value.map a20, Value.map a21])) ∧
 ∃ (s22 : ByteArray),
 ∃ (n23 : Int),
 Reads Try.prog (Instr.loadAt (94 : Nat) (Value.pointer (some (Addr.mk (Array.size h10) (0 : Nat) none)))) h17
 (Value.agg (Array.mk [Value.string s22, Value.int IntKind.i64 n23])) ∧
 ∃ (h24 : Array Value),
 Reads Try.prog (Instr.loadAt (96 : Nat) (Value.pointer (some ((Addr.mk (Array.size h10) (0 : Nat) none).add (2 : Nat))))) h17
 (Value.agg h24) ∧
 HC Try.prog (49 : Nat)
 (Array.mk
 [Value.agg (Array.mk [Value.map a20, Value.map a21]),
 Value.agg (Array.mk [Value.string s22, Value.int IntKind.i64 n23]), Value.agg h24])
 h17 fun (v25 : Value) (h26 : Heap) =>
 v25 = Value.tuple (Array.mk []) ∧
 ∃ (I27 : Heap → Prop),
 I27 h26 ∧
 ∃ (p28 : Addr),
 none = some p28 ∧
 ∃ (a29 : Option Addr),
 ∃ (k30 : Nat),
 ∃ (k31 : Nat),
 (∀ (h32 : Heap),
 I27 h32 →
 Reads Try.prog (Instr.loadAt (89 : Nat) (Value.pointer (some (p28.add (4 : Nat))))) h32
 (Value.slice a29 k30 k31)) ∧
 ∃ (h33 : Array Value),
 Reads Try.prog
 (Instr.loadAt (98 : Nat) (Value.pointer (some (Addr.mk (Array.size h10) (0 : Nat) none)))) h26
 (Value.agg h33) ∧
 SVC Try.prog (Instr.buildSlice (89 : Nat) (1 : Nat) (Array.mk [((0 : Nat), Value.agg h33)])) h26
 fun (v34 : Value) (h35 : Heap) =>
 ∃ (a36 : Option Addr),
 ∃ (k37 : Nat),
 ∃ (k38 : Nat),
 v34 = Value.slice a36 k37 k38 ∧
 I27 h35 ∧
 SVC Try.prog
 (Builtin.append_ (Array.mk [(89 : Nat), (89 : Nat)]) (89 : Nat)
 (Array.mk [Value.slice a29 k30 k31, Value.slice a36 k37 k38]))
 h35 fun (v39 : Value) (h40 : Heap) =>
 ∃ (a41 : Option Addr),
 ∃ (k42 : Nat),
 ∃ (k43 : Nat),
 v39 = Value.slice a41 k42 k43 ∧
 ∃ (p44 : Addr),
 none = some p44 ∧
 SVC Try.prog
 (Instr.storeAt (89 : Nat) (Value.pointer (some (p44.add (4 : Nat))))
 (Value.slice a41 k42 k43))
 h40 fun (x45 : Unit) (h46 : Heap) =>
 br b11
 (∃ (p47 : Addr),
 none = some p47 ∧
 ∃ (n48 : Int),
 Reads Try.prog
 (Instr.loadAt (34 : Nat)
 (Value.pointer (some (p47.add (9 : Nat)))))
 h46 (Value.int IntKind.u64 n48) ∧
 HC Try.prog (19 : Nat)
 (Array.mk [Value.pointer none, Value.int IntKind.u64 n48])
 h46 fun (v49 : Value) (h50 : Heap) =>
 v49 = Value.tuple (Array.mk []) ∧
 R (Value.int IntKind.i64 (8 : Int)) h50)
 (R (Value.int IntKind.i64 (0 : Int)) h46)))
 (HC Try.prog (48 : Nat) (Array.mk [Value.pointer none]) h1 fun (v51 : Value) (h52 : Heap) =>
 ∃ (b53 : Bool),
 v51 = Value.bool b53 ∧
 ∃ (h54 : Array Value),
 Blt Try.prog (98 : Nat) [((0 : Nat), Value.agg (Array.mk [Value.string s, Value.int IntKind.i64 i]))] h54 ∧
 ∃ (h55 : Array Value),
 IsZ Try.prog (98 : Nat) h55 ∧
 SVC Try.prog (Instr.storeAt (98 : Nat) (Value.pointer (some (Addr.mk (Array.size h52) (0 : Nat) none))) (Value.agg h54))
 (Array.push h52 (Obj.cells h55 (98 : Nat))) fun (x56 : Unit) (h57 : Heap) =>
 ((0 : Int) ≤ (0 : Int) ∧ (0 : Int) ≤ (↑(512 : Nat) : Int) ∧ (↑(512 : Nat) : Int) ≤ (↑(512 : Nat) : Int) ∧ (↑(512 : Nat) : Int) ≤ (↑(512 : Nat) : Int)) ∧
 SVC Try.prog
 (Builtin.copy_ (Array.mk [(22 : Nat), (22 : Nat)]) (3 : Nat)
 (Array.mk
 [Value.slice (subA (some ((Addr.mk (Array.size h52) (0 : Nat) none).add (2 : Nat))) (0 : Nat) (512 : Nat) (1 : Nat)) (512 : Nat) (512 : Nat),
 Value.slice none (0 : Nat) (0 : Nat)]))
 h57 fun (v58 : Value) (h59 : Heap) =>
 ∃ (n60 : Int),
 v58 = Value.int IntKind.i64 n60 ∧
 ∃ (p61 : Addr),
 none = some p61 ∧
 ∃ (a62 : Option Nat),
 ∃ (a63 : Option Nat),
 Reads Try.prog (Instr.loadAt (87 : Nat) (Value.pointer (some p61))) h59 (Value.agg (Array.mk [Value.map a62, Value.map a63])) ∧
 ∃ (s64 : ByteArray),
 ∃ (n65 : Int),
 Reads Try.prog (Instr.loadAt (94 : Nat) (Value.pointer (some (Addr.mk (Array.size h52) (0 : Nat) none)))) h59
 (Value.agg (Array.mk [Value.string s64, Value.int IntKind.i64 n65])) ∧
 ∃ (h66 : Array Value),
 Reads Try.prog (Instr.loadAt (96 : Nat) (Value.pointer (some ((Addr.mk (Array.size h52) (0 : Nat) none).add (2 : Nat))))) h59
 (Value.agg h66) ∧
 HC Try.prog (49 : Nat)
 (Array.mk
 [Value.agg (Array.mk [Value.map a62, Value.map a63]), Value.agg (Array.mk [Value.string s64, Value.int IntKind.i64 n65]),
 Value.agg h66])
 h59 fun (v67 : Value) (h68 : Heap) =>
 v67 = Value.tuple (Array.mk []) ∧
 ∃ (I69 : Heap → Prop),
 I69 h68 ∧
 ∃ (p70 : Addr),
 none = some p70 ∧
 ∃ (a71 : Option Addr),
 ∃ (k72 : Nat),
 ∃ (k73 : Nat),
 (∀ (h74 : Heap),
 I69 h74 →
 Reads Try.prog (Instr.loadAt (89 : Nat) (Value.pointer (some (p70.add (4 : Nat))))) h74
 (Value.slice a71 k72 k73)) ∧
 ∃ (h75 : Array Value),
 Reads Try.prog (Instr.loadAt (98 : Nat) (Value.pointer (some (Addr.mk (Array.size h52) (0 : Nat) none)))) h68
 (Value.agg h75) ∧
 SVC Try.prog (Instr.buildSlice (89 : Nat) (1 : Nat) (Array.mk [((0 : Nat), Value.agg h75)])) h68
 fun (v76 : Value) (h77 : Heap) =>
 ∃ (a78 : Option Addr),
 ∃ (k79 : Nat),
 ∃ (k80 : Nat),
 v76 = Value.slice a78 k79 k80 ∧
 I69 h77 ∧
 SVC Try.prog
 (Builtin.append_ (Array.mk [(89 : Nat), (89 : Nat)]) (89 : Nat)
 (Array.mk [Value.slice a71 k72 k73, Value.slice a78 k79 k80]))
 h77 fun (v81 : Value) (h82 : Heap) =>
 ∃ (a83 : Option Addr),
 ∃ (k84 : Nat),
 ∃ (k85 : Nat),
 v81 = Value.slice a83 k84 k85 ∧
 ∃ (p86 : Addr),
 none = some p86 ∧
 SVC Try.prog
 (Instr.storeAt (89 : Nat) (Value.pointer (some (p86.add (4 : Nat))))
 (Value.slice a83 k84 k85))
 h82 fun (x87 : Unit) (h88 : Heap) =>
 br b53
 (∃ (p89 : Addr),
 none = some p89 ∧
 ∃ (n90 : Int),
 Reads Try.prog
 (Instr.loadAt (34 : Nat) (Value.pointer (some (p89.add (9 : Nat)))))
 h88 (Value.int IntKind.u64 n90) ∧
 HC Try.prog (19 : Nat)
 (Array.mk [Value.pointer none, Value.int IntKind.u64 n90]) h88
 fun (v91 : Value) (h92 : Heap) =>
 v91 = Value.tuple (Array.mk []) ∧
 R (Value.int IntKind.i64 (8 : Int)) h92)
 (R (Value.int IntKind.i64 (0 : Int)) h88))))) := by kernel_rfl

theorem nlDoes (s : ByteArray) (f : Nat) (cap : Array Value) (h : Heap) (R : Value → Heap → Prop) :
    vcF Try.prog Try.f50 31 [] [] [.pointer none, .string s, .func (.func f) #[] cap] h R =
(HC Try.prog (47 : Nat) (Array.mk [Value.pointer none]) h fun (v0 : Value) (h1 : Heap) =>
 ∃ (n2 : Int),
 v0 = Value.int IntKind.i64 n2 ∧
 br (n2 != (0 : Int)) (R (Value.int IntKind.i64 n2) h1)
 (HC Try.prog (23 : Nat) (Array.mk [Value.pointer none, Value.string s]) h1 fun (v3 : Value) (h4 : Heap) =>
 ∃ (b5 : Bool),
 v3 = Value.bool b5 ∧
 br (!b5) (R (Value.int IntKind.i64 (5 : Int)) h4)
 (HC Try.prog (48 : Nat) (Array.mk [Value.pointer none]) h4 fun (v6 : Value) (h7 : Heap) =>
 ∃ (b8 : Bool),
 v6 = Value.bool b8 ∧
 br b8
 (∃ (p9 : Addr),
 none = some p9 ∧
 ∃ (n10 : Int),
 Reads Try.prog (Instr.loadAt (34 : Nat) (Value.pointer (some (p9.add (9 : Nat))))) h7 (Value.int IntKind.u64 n10) ∧
 HC Try.prog (19 : Nat) (Array.mk [Value.pointer none, Value.int IntKind.u64 n10]) h7 fun (v11 : Value) (h12 : Heap) =>
 v11 = Value.tuple (Array.mk []) ∧ R (Value.int IntKind.i64 (8 : Int)) h12)
 (∃ (p13 : Addr),
 none = some p13 ∧
 ∃ (a14 : Option Nat),
 ∃ (a15 : Option Nat),
 Reads Try.prog (Instr.loadAt (87 : Nat) (Value.pointer (some p13))) h7 (Value.agg (Array.mk [Value.map a14, Value.map a15])) ∧
 br (fnOk Try.prog f)
 (HC Try.prog f (Array.mk [Value.agg (Array.mk [Value.map a14, Value.map a15])] ++ cap) h7 fun (v16 : Value) (h17 : Heap) =>
 v16 = Value.tuple (Array.mk []) ∧ R (Value.int IntKind.i64 (0 : Int)) h17)
 False)))) := by kernel_rfl

theorem nlSync (s : ByteArray) (h : Heap) (R : Value → Heap → Prop) :
    vcF Try.prog Try.f17 15 [] [] [.pointer none, .string s] h R =
(HC Try.prog (50 : Nat) (Array.mk [Value.pointer none, Value.string s, Value.func (Fn.func (51 : Nat)) (Array.mk []) (Array.mk [])]) h fun (v0 : Value) (h1 : Heap) =>
 ∃ (n2 : Int),
 v0 = Value.int IntKind.i64 n2 ∧
 br (n2 == (0 : Int)) (HC Try.prog (52 : Nat) (Array.mk [Value.pointer none, Value.string s]) h1 fun (v3 : Value) (h4 : Heap) => v3 = Value.tuple (Array.mk []) ∧ R (Value.int IntKind.i64 n2) h4)
 (R (Value.int IntKind.i64 n2) h1)) := by kernel_rfl

theorem nlCut (s : ByteArray) (n : Int) (h : Heap) (R : Value → Heap → Prop) :
    vcF Try.prog Try.f24 64 [] [] [.pointer none, .string s, .int .i64 n] h R =
(HC Try.prog (47 : Nat) (Array.mk [Value.pointer none]) ((Array.push h (Obj.cells (Array.mk [Value.string s]) (9 : Nat))).push (Obj.cells (Array.mk [Value.int IntKind.i64 n]) (3 : Nat)))
 fun (v0 : Value) (h1 : Heap) =>
 ∃ (n2 : Int),
 v0 = Value.int IntKind.i64 n2 ∧
 br (n2 != (0 : Int)) (R (Value.int IntKind.i64 n2) h1)
 (∃ (s3 : ByteArray),
 Reads Try.prog (Instr.loadAt (9 : Nat) (Value.pointer (some (Addr.mk (Array.size h) (0 : Nat) none)))) h1 (Value.string s3) ∧
 HC Try.prog (23 : Nat) (Array.mk [Value.pointer none, Value.string s3]) h1 fun (v4 : Value) (h5 : Heap) =>
 ∃ (b6 : Bool),
 v4 = Value.bool b6 ∧
 ∃ (n7 : Int),
 (b6 = true →
 Reads Try.prog (Instr.loadAt (3 : Nat) (Value.pointer (some (Addr.mk (Array.push h (Obj.cells (Array.mk [Value.string s]) (9 : Nat))).size (0 : Nat) none)))) h5
 (Value.int IntKind.i64 n7)) ∧
 br (b6 && decide (n7 < (0 : Int))) (R (Value.int IntKind.i64 (1 : Int)) h5)
 (∃ (s8 : ByteArray),
 Reads Try.prog (Instr.loadAt (9 : Nat) (Value.pointer (some (Addr.mk (Array.size h) (0 : Nat) none)))) h5 (Value.string s8) ∧
 HC Try.prog (50 : Nat)
 (Array.mk
 [Value.pointer none, Value.string s8,
 Value.func (Fn.func (53 : Nat)) (Array.mk [])
 (Array.mk
 [Value.pointer (some (Addr.mk (Array.size h) (0 : Nat) none)),
 Value.pointer (some (Addr.mk (Array.push h (Obj.cells (Array.mk [Value.string s]) (9 : Nat))).size (0 : Nat) none))])])
 h5 fun (v9 : Value) (h10 : Heap) =>
 ∃ (n11 : Int),
 v9 = Value.int IntKind.i64 n11 ∧
 br (n11 == (0 : Int))
 (∃ (p12 : Addr),
 none = some p12 ∧
 ∃ (a13 : Option Nat),
 Reads Try.prog (Instr.loadAt (84 : Nat) (Value.pointer (some (p12.add (2 : Nat))))) h10 (Value.map a13) ∧
 ∃ (s14 : ByteArray),
 Reads Try.prog (Instr.loadAt (9 : Nat) (Value.pointer (some (Addr.mk (Array.size h) (0 : Nat) none)))) h10 (Value.string s14) ∧
 ∃ (n15 : Int),
 ∃ (b16 : Bool),
 Reads Try.prog (Instr.lookup (84 : Nat) (Value.map a13) (Value.string s14) true) h10
 (Value.tuple (Array.mk [Value.int IntKind.i64 n15, Value.bool b16])) ∧
 br (!b16)
 (∃ (p17 : Addr),
 none = some p17 ∧
 ∃ (a18 : Option Nat),
 Reads Try.prog (Instr.loadAt (84 : Nat) (Value.pointer (some (p17.add (2 : Nat))))) h10 (Value.map a18) ∧
 ∃ (s19 : ByteArray),
 Reads Try.prog (Instr.loadAt (9 : Nat) (Value.pointer (some (Addr.mk (Array.size h) (0 : Nat) none)))) h10 (Value.string s19) ∧
 SVC Try.prog (Instr.mapUpdate (84 : Nat) (Value.map a18) (Value.string s19) (Value.int IntKind.i64 (0 : Int))) h10
 fun (x20 : Unit) (h21 : Heap) =>
 ∃ (p22 : Addr),
 none = some p22 ∧
 ∃ (a23 : Option Nat),
 ∃ (a24 : Option Nat),
 Reads Try.prog (Instr.loadAt (87 : Nat) (Value.pointer (some (p22.add (2 : Nat))))) h21
 (Value.agg (Array.mk [Value.map a23, Value.map a24])) ∧
 ∃ (s25 : ByteArray),
 Reads Try.prog (Instr.loadAt (9 : Nat) (Value.pointer (some (Addr.mk (Array.size h) (0 : Nat) none)))) h21
 (Value.string s25) ∧
 ∃ (n26 : Int),
 Reads Try.prog
 (Instr.loadAt (3 : Nat)
 (Value.pointer
 (some (Addr.mk (Array.push h (Obj.cells (Array.mk [Value.string s]) (9 : Nat))).size (0 : Nat) none))))
 h21 (Value.int IntKind.i64 n26) ∧
 HC Try.prog (54 : Nat)
 (Array.mk [Value.agg (Array.mk [Value.map a23, Value.map a24]), Value.string s25, Value.int IntKind.i64 n26])
 h21 fun (v27 : Value) (h28 : Heap) =>
 v27 = Value.tuple (Array.mk []) ∧
 ∃ (p29 : Addr),
 none = some p29 ∧
 ∃ (a30 : Option Addr),
 ∃ (k31 : Nat),
 ∃ (k32 : Nat),
 Reads Try.prog (Instr.loadAt (89 : Nat) (Value.pointer (some (p29.add (4 : Nat))))) h28
 (Value.slice a30 k31 k32) ∧
 HC Try.prog (55 : Nat)
 (Array.mk
 [Value.slice a30 k31 k32,
 Value.func (Fn.func (56 : Nat)) (Array.mk [])
 (Array.mk
 [Value.pointer (some (Addr.mk (Array.size h) (0 : Nat) none)),
 Value.pointer
 (some
 (Addr.mk (Array.push h (Obj.cells (Array.mk [Value.string s]) (9 : Nat))).size
 (0 : Nat) none))])])
 h28 fun (v33 : Value) (h34 : Heap) =>
 ∃ (a35 : Option Addr),
 ∃ (k36 : Nat),
 ∃ (k37 : Nat),
 v33 = Value.slice a35 k36 k37 ∧
 ∃ (p38 : Addr),
 none = some p38 ∧
 SVC Try.prog
 (Instr.storeAt (89 : Nat) (Value.pointer (some (p38.add (4 : Nat))))
 (Value.slice a35 k36 k37))
 h34 fun (x39 : Unit) (h40 : Heap) => R (Value.int IntKind.i64 n11) h40)
 (∃ (p41 : Addr),
 none = some p41 ∧
 ∃ (a42 : Option Nat),
 ∃ (a43 : Option Nat),
 Reads Try.prog (Instr.loadAt (87 : Nat) (Value.pointer (some (p41.add (2 : Nat))))) h10
 (Value.agg (Array.mk [Value.map a42, Value.map a43])) ∧
 ∃ (s44 : ByteArray),
 Reads Try.prog (Instr.loadAt (9 : Nat) (Value.pointer (some (Addr.mk (Array.size h) (0 : Nat) none)))) h10 (Value.string s44) ∧
 ∃ (n45 : Int),
 Reads Try.prog
 (Instr.loadAt (3 : Nat)
 (Value.pointer (some (Addr.mk (Array.push h (Obj.cells (Array.mk [Value.string s]) (9 : Nat))).size (0 : Nat) none))))
 h10 (Value.int IntKind.i64 n45) ∧
 HC Try.prog (54 : Nat)
 (Array.mk [Value.agg (Array.mk [Value.map a42, Value.map a43]), Value.string s44, Value.int IntKind.i64 n45]) h10
 fun (v46 : Value) (h47 : Heap) =>
 v46 = Value.tuple (Array.mk []) ∧
 ∃ (p48 : Addr),
 none = some p48 ∧
 ∃ (a49 : Option Addr),
 ∃ (k50 : Nat),
 ∃ (k51 : Nat),
 Reads Try.prog (Instr.loadAt (89 : Nat) (Value.pointer (some (p48.add (4 : Nat))))) h47
 (Value.slice a49 k50 k51) ∧
 HC Try.prog (55 : Nat)
 (Array.mk
 [Value.slice a49 k50 k51,
 Value.func (Fn.func (56 : Nat)) (Array.mk [])
 (Array.mk
 [Value.pointer (some (Addr.mk (Array.size h) (0 : Nat) none)),
 Value.pointer
 (some
 (Addr.mk (Array.push h (Obj.cells (Array.mk [Value.string s]) (9 : Nat))).size (0 : Nat)
 none))])])
 h47 fun (v52 : Value) (h53 : Heap) =>
 ∃ (a54 : Option Addr),
 ∃ (k55 : Nat),
 ∃ (k56 : Nat),
 v52 = Value.slice a54 k55 k56 ∧
 ∃ (p57 : Addr),
 none = some p57 ∧
 SVC Try.prog
 (Instr.storeAt (89 : Nat) (Value.pointer (some (p57.add (4 : Nat))))
 (Value.slice a54 k55 k56))
 h53 fun (x58 : Unit) (h59 : Heap) => R (Value.int IntKind.i64 n11) h59))
 (R (Value.int IntKind.i64 n11) h10)))) := by kernel_rfl

theorem nlRename (s t : ByteArray) (h : Heap) (R : Value → Heap → Prop) :
    vcF Try.prog Try.f26 77 [] [] [.pointer none, .string s, .string t] h R =
(HC Try.prog (47 : Nat) (Array.mk [Value.pointer none]) ((Array.push h (Obj.cells (Array.mk [Value.string s]) (9 : Nat))).push (Obj.cells (Array.mk [Value.string t]) (9 : Nat)))
 fun (v0 : Value) (h1 : Heap) =>
 ∃ (n2 : Int),
 v0 = Value.int IntKind.i64 n2 ∧
 ∃ (s3 : ByteArray),
 ((n2 == (0 : Int)) = true → Reads Try.prog (Instr.loadAt (9 : Nat) (Value.pointer (some (Addr.mk (Array.size h) (0 : Nat) none)))) h1 (Value.string s3)) ∧
 ∃ (s4 : ByteArray),
 ((n2 == (0 : Int)) = true →
 Reads Try.prog (Instr.loadAt (9 : Nat) (Value.pointer (some (Addr.mk (Array.push h (Obj.cells (Array.mk [Value.string s]) (9 : Nat))).size (0 : Nat) none)))) h1 (Value.string s4)) ∧
 ∃ (s5 : ByteArray),
 ((n2 == (0 : Int) && s3.toList == s4.toList) = true → Reads Try.prog (Instr.loadAt (9 : Nat) (Value.pointer (some (Addr.mk (Array.size h) (0 : Nat) none)))) h1 (Value.string s5)) ∧
 br (n2 == (0 : Int) && s3.toList == s4.toList)
 (HC Try.prog (23 : Nat) (Array.mk [Value.pointer none, Value.string s5]) h1 fun (v6 : Value) (h7 : Heap) =>
 ∃ (b8 : Bool),
 v6 = Value.bool b8 ∧
 br b8
 (∃ (s9 : ByteArray),
 Reads Try.prog (Instr.loadAt (9 : Nat) (Value.pointer (some (Addr.mk (Array.size h) (0 : Nat) none)))) h7 (Value.string s9) ∧
 HC Try.prog (50 : Nat) (Array.mk [Value.pointer none, Value.string s9, Value.func (Fn.func (59 : Nat)) (Array.mk []) (Array.mk [])]) h7
 fun (v10 : Value) (h11 : Heap) => ∃ (n12 : Int), v10 = Value.int IntKind.i64 n12 ∧ R (Value.int IntKind.i64 n12) h11)
 (∃ (s13 : ByteArray),
 Reads Try.prog (Instr.loadAt (9 : Nat) (Value.pointer (some (Addr.mk (Array.size h) (0 : Nat) none)))) h7 (Value.string s13) ∧
 HC Try.prog (50 : Nat)
 (Array.mk
 [Value.pointer none, Value.string s13,
 Value.func (Fn.func (60 : Nat)) (Array.mk [])
 (Array.mk
 [Value.pointer (some (Addr.mk (Array.size h) (0 : Nat) none)),
 Value.pointer (some (Addr.mk (Array.push h (Obj.cells (Array.mk [Value.string s]) (9 : Nat))).size (0 : Nat) none))])])
 h7 fun (v14 : Value) (h15 : Heap) =>
 ∃ (n16 : Int),
 v14 = Value.int IntKind.i64 n16 ∧
 br (n16 == (0 : Int))
 (∃ (p17 : Addr),
 none = some p17 ∧
 ∃ (a18 : Option Addr),
 ∃ (k19 : Nat),
 ∃ (k20 : Nat),
 Reads Try.prog (Instr.loadAt (89 : Nat) (Value.pointer (some (p17.add (4 : Nat))))) h15 (Value.slice a18 k19 k20) ∧
 HC Try.prog (55 : Nat)
 (Array.mk
 [Value.slice a18 k19 k20,
 Value.func (Fn.func (62 : Nat)) (Array.mk [])
 (Array.mk [Value.pointer (some (Addr.mk (Array.push h (Obj.cells (Array.mk [Value.string s]) (9 : Nat))).size (0 : Nat) none))])])
 h15 fun (v21 : Value) (h22 : Heap) =>
 ∃ (a23 : Option Addr),
 ∃ (k24 : Nat),
 ∃ (k25 : Nat),
 v21 = Value.slice a23 k24 k25 ∧
 ∃ (p26 : Addr),
 none = some p26 ∧
 SVC Try.prog (Instr.storeAt (89 : Nat) (Value.pointer (some (p26.add (4 : Nat)))) (Value.slice a23 k24 k25)) h22
 fun (x27 : Unit) (h28 : Heap) =>
 ∃ (p29 : Addr),
 none = some p29 ∧
 ∃ (a30 : Option Addr),
 ∃ (k31 : Nat),
 ∃ (k32 : Nat),
 Reads Try.prog (Instr.loadAt (89 : Nat) (Value.pointer (some (p29.add (4 : Nat))))) h28 (Value.slice a30 k31 k32) ∧
 ∃ (I33 : Int → Heap → Prop),
 ∃ (I34 : Int → Heap → Nat),
 I33 (0 : Int) h28 ∧
 ∀ (n35 : Int) (h36 : Heap),
 I33 n35 h36 →
 br (decide (n35 < (↑k31 : Int)))
 (∃ (p37 : Addr),
 none = some p37 ∧
 ∃ (a38 : Option Addr),
 ∃ (k39 : Nat),
 ∃ (k40 : Nat),
 Reads Try.prog (Instr.loadAt (89 : Nat) (Value.pointer (some (p37.add (4 : Nat))))) h36
 (Value.slice a38 k39 k40) ∧
 ∃ (p41 : Addr),
 (a38 = some p41 ∧ (0 : Int) ≤ n35 ∧ n35 < (↑k39 : Int)) ∧
 ∃ (s42 : ByteArray),
 Reads Try.prog
 (Instr.loadAt (9 : Nat) (Value.pointer (some (p41.add (n35.toNat * (514 : Nat))))))
 h36 (Value.string s42) ∧
 ∃ (s43 : ByteArray),
 Reads Try.prog
 (Instr.loadAt (9 : Nat)
 (Value.pointer (some (Addr.mk (Array.size h) (0 : Nat) none))))
 h36 (Value.string s43) ∧
 br (s42.toList == s43.toList)
 (∃ (p44 : Addr),
 none = some p44 ∧
 ∃ (a45 : Option Addr),
 ∃ (k46 : Nat),
 ∃ (k47 : Nat),
 Reads Try.prog
 (Instr.loadAt (89 : Nat) (Value.pointer (some (p44.add (4 : Nat)))))
 h36 (Value.slice a45 k46 k47) ∧
 ∃ (s48 : ByteArray),
 Reads Try.prog
 (Instr.loadAt (9 : Nat)
 (Value.pointer
 (some
 (Addr.mk
 (Array.push h
 (Obj.cells (Array.mk [Value.string s])
 (9 : Nat))).size
 (0 : Nat) none))))
 h36 (Value.string s48) ∧
 ∃ (p49 : Addr),
 (a45 = some p49 ∧ (0 : Int) ≤ n35 ∧ n35 < (↑k46 : Int)) ∧
 SVC Try.prog
 (Instr.storeAt (9 : Nat)
 (Value.pointer (some (p49.add (n35.toNat * (514 : Nat)))))
 (Value.string s48))
 h36 fun (x50 : Unit) (h51 : Heap) =>
 I33 (IntKind.i64.wrap (n35 + (1 : Int))) h51 ∧
 I34 (IntKind.i64.wrap (n35 + (1 : Int))) h51 <
 I34 n35 h36)
 (I33 (IntKind.i64.wrap (n35 + (1 : Int))) h36 ∧
 I34 (IntKind.i64.wrap (n35 + (1 : Int))) h36 < I34 n35 h36))
 (∃ (p52 : Addr),
 none = some p52 ∧
 ∃ (a53 : Option Nat),
 ∃ (a54 : Option Nat),
 Reads Try.prog (Instr.loadAt (87 : Nat) (Value.pointer (some (p52.add (2 : Nat))))) h36
 (Value.agg (Array.mk [Value.map a53, Value.map a54])) ∧
 ∃ (s55 : ByteArray),
 Reads Try.prog
 (Instr.loadAt (9 : Nat) (Value.pointer (some (Addr.mk (Array.size h) (0 : Nat) none)))) h36
 (Value.string s55) ∧
 ∃ (s56 : ByteArray),
 Reads Try.prog
 (Instr.loadAt (9 : Nat)
 (Value.pointer
 (some
 (Addr.mk (Array.push h (Obj.cells (Array.mk [Value.string s]) (9 : Nat))).size
 (0 : Nat) none))))
 h36 (Value.string s56) ∧
 HC Try.prog (61 : Nat)
 (Array.mk
 [Value.agg (Array.mk [Value.map a53, Value.map a54]), Value.string s55,
 Value.string s56])
 h36 fun (v57 : Value) (h58 : Heap) =>
 v57 = Value.tuple (Array.mk []) ∧ R (Value.int IntKind.i64 n16) h58))
 (R (Value.int IntKind.i64 n16) h15)))
 (∃ (s59 : ByteArray),
 Reads Try.prog (Instr.loadAt (9 : Nat) (Value.pointer (some (Addr.mk (Array.size h) (0 : Nat) none)))) h1 (Value.string s59) ∧
 HC Try.prog (50 : Nat)
 (Array.mk
 [Value.pointer none, Value.string s59,
 Value.func (Fn.func (60 : Nat)) (Array.mk [])
 (Array.mk
 [Value.pointer (some (Addr.mk (Array.size h) (0 : Nat) none)),
 Value.pointer (some (Addr.mk (Array.push h (Obj.cells (Array.mk [Value.string s]) (9 : Nat))).size (0 : Nat) none))])])
 h1 fun (v60 : Value) (h61 : Heap) =>
 ∃ (n62 : Int),
 v60 = Value.int IntKind.i64 n62 ∧
 br (n62 == (0 : Int))
 (∃ (p63 : Addr),
 none = some p63 ∧
 ∃ (a64 : Option Addr),
 ∃ (k65 : Nat),
 ∃ (k66 : Nat),
 Reads Try.prog (Instr.loadAt (89 : Nat) (Value.pointer (some (p63.add (4 : Nat))))) h61 (Value.slice a64 k65 k66) ∧
 HC Try.prog (55 : Nat)
 (Array.mk
 [Value.slice a64 k65 k66,
 Value.func (Fn.func (62 : Nat)) (Array.mk [])
 (Array.mk [Value.pointer (some (Addr.mk (Array.push h (Obj.cells (Array.mk [Value.string s]) (9 : Nat))).size (0 : Nat) none))])])
 h61 fun (v67 : Value) (h68 : Heap) =>
 ∃ (a69 : Option Addr),
 ∃ (k70 : Nat),
 ∃ (k71 : Nat),
 v67 = Value.slice a69 k70 k71 ∧
 ∃ (p72 : Addr),
 none = some p72 ∧
 SVC Try.prog (Instr.storeAt (89 : Nat) (Value.pointer (some (p72.add (4 : Nat)))) (Value.slice a69 k70 k71)) h68
 fun (x73 : Unit) (h74 : Heap) =>
 ∃ (p75 : Addr),
 none = some p75 ∧
 ∃ (a76 : Option Addr),
 ∃ (k77 : Nat),
 ∃ (k78 : Nat),
 Reads Try.prog (Instr.loadAt (89 : Nat) (Value.pointer (some (p75.add (4 : Nat))))) h74 (Value.slice a76 k77 k78) ∧
 ∃ (I79 : Int → Heap → Prop),
 ∃ (I80 : Int → Heap → Nat),
 I79 (0 : Int) h74 ∧
 ∀ (n81 : Int) (h82 : Heap),
 I79 n81 h82 →
 br (decide (n81 < (↑k77 : Int)))
 (∃ (p83 : Addr),
 none = some p83 ∧
 ∃ (a84 : Option Addr),
 ∃ (k85 : Nat),
 ∃ (k86 : Nat),
 Reads Try.prog (Instr.loadAt (89 : Nat) (Value.pointer (some (p83.add (4 : Nat))))) h82
 (Value.slice a84 k85 k86) ∧
 ∃ (p87 : Addr),
 (a84 = some p87 ∧ (0 : Int) ≤ n81 ∧ n81 < (↑k85 : Int)) ∧
 ∃ (s88 : ByteArray),
 Reads Try.prog (Instr.loadAt (9 : Nat) (Value.pointer (some (p87.add (n81.toNat * (514 : Nat))))))
 h82 (Value.string s88) ∧
 ∃ (s89 : ByteArray),
 Reads Try.prog
 (Instr.loadAt (9 : Nat) (Value.pointer (some (Addr.mk (Array.size h) (0 : Nat) none))))
 h82 (Value.string s89) ∧
 br (s88.toList == s89.toList)
 (∃ (p90 : Addr),
 none = some p90 ∧
 ∃ (a91 : Option Addr),
 ∃ (k92 : Nat),
 ∃ (k93 : Nat),
 Reads Try.prog
 (Instr.loadAt (89 : Nat) (Value.pointer (some (p90.add (4 : Nat))))) h82
 (Value.slice a91 k92 k93) ∧
 ∃ (s94 : ByteArray),
 Reads Try.prog
 (Instr.loadAt (9 : Nat)
 (Value.pointer
 (some
 (Addr.mk
 (Array.push h
 (Obj.cells (Array.mk [Value.string s]) (9 : Nat))).size
 (0 : Nat) none))))
 h82 (Value.string s94) ∧
 ∃ (p95 : Addr),
 (a91 = some p95 ∧ (0 : Int) ≤ n81 ∧ n81 < (↑k92 : Int)) ∧
 SVC Try.prog
 (Instr.storeAt (9 : Nat)
 (Value.pointer (some (p95.add (n81.toNat * (514 : Nat)))))
 (Value.string s94))
 h82 fun (x96 : Unit) (h97 : Heap) =>
 I79 (IntKind.i64.wrap (n81 + (1 : Int))) h97 ∧
 I80 (IntKind.i64.wrap (n81 + (1 : Int))) h97 < I80 n81 h82)
 (I79 (IntKind.i64.wrap (n81 + (1 : Int))) h82 ∧
 I80 (IntKind.i64.wrap (n81 + (1 : Int))) h82 < I80 n81 h82))
 (∃ (p98 : Addr),
 none = some p98 ∧
 ∃ (a99 : Option Nat),
 ∃ (a100 : Option Nat),
 Reads Try.prog (Instr.loadAt (87 : Nat) (Value.pointer (some (p98.add (2 : Nat))))) h82
 (Value.agg (Array.mk [Value.map a99, Value.map a100])) ∧
 ∃ (s101 : ByteArray),
 Reads Try.prog (Instr.loadAt (9 : Nat) (Value.pointer (some (Addr.mk (Array.size h) (0 : Nat) none))))
 h82 (Value.string s101) ∧
 ∃ (s102 : ByteArray),
 Reads Try.prog
 (Instr.loadAt (9 : Nat)
 (Value.pointer
 (some
 (Addr.mk (Array.push h (Obj.cells (Array.mk [Value.string s]) (9 : Nat))).size (0 : Nat)
 none))))
 h82 (Value.string s102) ∧
 HC Try.prog (61 : Nat)
 (Array.mk
 [Value.agg (Array.mk [Value.map a99, Value.map a100]), Value.string s101, Value.string s102])
 h82 fun (v103 : Value) (h104 : Heap) =>
 v103 = Value.tuple (Array.mk []) ∧ R (Value.int IntKind.i64 n62) h104))
 (R (Value.int IntKind.i64 n62) h61))) := by kernel_rfl

theorem nlRemove (s : ByteArray) (h : Heap) (R : Value → Heap → Prop) :
    vcF Try.prog Try.f25 30 [] [] [.pointer none, .string s] h R =
(∃ (s0 : ByteArray),
 Reads Try.prog (Instr.loadAt (9 : Nat) (Value.pointer (some (Addr.mk (Array.size h) (0 : Nat) none)))) (Array.push h (Obj.cells (Array.mk [Value.string s]) (9 : Nat))) (Value.string s0) ∧
 HC Try.prog (50 : Nat) (Array.mk [Value.pointer none, Value.string s0, Value.func (Fn.func (57 : Nat)) (Array.mk []) (Array.mk [Value.pointer (some (Addr.mk (Array.size h) (0 : Nat) none))])])
 (Array.push h (Obj.cells (Array.mk [Value.string s]) (9 : Nat))) fun (v1 : Value) (h2 : Heap) =>
 ∃ (n3 : Int),
 v1 = Value.int IntKind.i64 n3 ∧
 br (n3 == (0 : Int))
 (∃ (p4 : Addr),
 none = some p4 ∧
 ∃ (a5 : Option Nat),
 ∃ (a6 : Option Nat),
 Reads Try.prog (Instr.loadAt (87 : Nat) (Value.pointer (some (p4.add (2 : Nat))))) h2 (Value.agg (Array.mk [Value.map a5, Value.map a6])) ∧
 HC Try.prog (57 : Nat) (Array.mk [Value.agg (Array.mk [Value.map a5, Value.map a6]), Value.pointer (some (Addr.mk (Array.size h) (0 : Nat) none))]) h2
 fun (v7 : Value) (h8 : Heap) =>
 v7 = Value.tuple (Array.mk []) ∧
 ∃ (p9 : Addr),
 none = some p9 ∧
 ∃ (a10 : Option Addr),
 ∃ (k11 : Nat),
 ∃ (k12 : Nat),
 Reads Try.prog (Instr.loadAt (89 : Nat) (Value.pointer (some (p9.add (4 : Nat))))) h8 (Value.slice a10 k11 k12) ∧
 HC Try.prog (55 : Nat)
 (Array.mk [Value.slice a10 k11 k12, Value.func (Fn.func (58 : Nat)) (Array.mk []) (Array.mk [Value.pointer (some (Addr.mk (Array.size h) (0 : Nat) none))])]) h8
 fun (v13 : Value) (h14 : Heap) =>
 ∃ (a15 : Option Addr),
 ∃ (k16 : Nat),
 ∃ (k17 : Nat),
 v13 = Value.slice a15 k16 k17 ∧
 ∃ (p18 : Addr),
 none = some p18 ∧
 SVC Try.prog (Instr.storeAt (89 : Nat) (Value.pointer (some (p18.add (4 : Nat)))) (Value.slice a15 k16 k17)) h14 fun (x19 : Unit) (h20 : Heap) =>
 R (Value.int IntKind.i64 n3) h20)
 (R (Value.int IntKind.i64 n3) h2)) := by kernel_rfl

theorem nlNames (h : Heap) (R : Value → Heap → Prop) :
    vcF Try.prog Try.f33 13 [] [] [.pointer none] h R =
(HC Try.prog (47 : Nat) (Array.mk [Value.pointer none]) h fun (v0 : Value) (h1 : Heap) =>
 ∃ (n2 : Int),
 v0 = Value.int IntKind.i64 n2 ∧
 br (n2 != (0 : Int)) (R (Value.slice none (0 : Nat) (0 : Nat)) h1)
 (∃ (p3 : Addr),
 none = some p3 ∧
 ∃ (a4 : Option Nat),
 Reads Try.prog (Instr.loadAt (84 : Nat) (Value.pointer (some p3))) h1 (Value.map a4) ∧
 HC Try.prog (72 : Nat) (Array.mk [Value.map a4]) h1 fun (v5 : Value) (h6 : Heap) =>
 ∃ (v7 : Value),
 v5 = v7 ∧
 HC Try.prog (71 : Nat) (Array.mk [v7]) h6 fun (v8 : Value) (h9 : Heap) =>
 ∃ (a10 : Option Addr), ∃ (k11 : Nat), ∃ (k12 : Nat), v8 = Value.slice a10 k11 k12 ∧ R (Value.slice a10 k11 k12) h9)) := by kernel_rfl

theorem nlActs (h : Heap) (R : Value → Heap → Prop) :
    vcF Try.prog Try.f30 9 [] [] [.pointer none] h R =
(∃ (b0 : Bool),
 Reads Try.prog (eqSem BinOp.eql (24 : Nat) (Operand.tmp (3 : Nat)) (Operand.const (Value.pointer none)) (Value.pointer none) (Value.pointer none)) h (Value.bool b0) ∧
 br b0 (R (Value.int IntKind.i64 (0 : Int)) h)
 (∃ (p1 : Addr), none = some p1 ∧ ∃ (n2 : Int), Reads Try.prog (Instr.loadAt (3 : Nat) (Value.pointer (some (p1.add (7 : Nat))))) h (Value.int IntKind.i64 n2) ∧ R (Value.int IntKind.i64 n2) h)) := by kernel_rfl

theorem nlDown (h : Heap) (R : Value → Heap → Prop) :
    vcF Try.prog Try.f31 11 [] [] [.pointer none] h R =
(∃ (b0 : Bool),
 Reads Try.prog (eqSem BinOp.neq (24 : Nat) (Operand.tmp (3 : Nat)) (Operand.const (Value.pointer none)) (Value.pointer none) (Value.pointer none)) h (Value.bool b0) ∧
 ∃ (p1 : Addr),
 (b0 = true → none = some p1) ∧ ∃ (b2 : Bool), (b0 = true → Reads Try.prog (Instr.loadAt (4 : Nat) (Value.pointer (some (p1.add (6 : Nat))))) h (Value.bool b2)) ∧ R (Value.bool (b0 && b2)) h) := by kernel_rfl

theorem nlFree (h : Heap) (R : Value → Heap → Prop) :
    vcF Try.prog Try.f22 26 [] [] [.pointer none] h R =
(∃ (b0 : Bool),
 Reads Try.prog (eqSem BinOp.eql (24 : Nat) (Operand.tmp (6 : Nat)) (Operand.const (Value.pointer none)) (Value.pointer none) (Value.pointer none)) h (Value.bool b0) ∧
 br b0 (R (Value.int IntKind.i64 (0 : Int)) h)
 (∃ (p1 : Addr),
 none = some p1 ∧
 ∃ (n2 : Int),
 Reads Try.prog (Instr.loadAt (3 : Nat) (Value.pointer (some (p1.add (5 : Nat))))) h (Value.int IntKind.i64 n2) ∧
 ∃ (p3 : Addr),
 none = some p3 ∧
 ∃ (a4 : Option Nat),
 Reads Try.prog (Instr.loadAt (84 : Nat) (Value.pointer (some p3))) h (Value.map a4) ∧
 SVC Try.prog (Instr.range (84 : Nat) (Value.map a4)) h fun (v5 : Value) (h6 : Heap) =>
 ∃ (a7 : Option Addr),
 v5 = Value.pointer a7 ∧
 ∃ (I8 : Int → Heap → Prop),
 ∃ (I9 : Int → Heap → Nat),
 I8 n2 h6 ∧
 ∀ (n10 : Int) (h11 : Heap),
 I8 n10 h11 →
 SVC Try.prog (Instr.next (Value.pointer a7) false (0 : Nat)) h11 fun (v12 : Value) (h13 : Heap) =>
 v12 = Value.tuple (Array.mk [Value.bool false]) ∧ R (Value.int IntKind.i64 n10) h13 ∨
 ∃ (v14 : Value),
 ∃ (v15 : Value),
 v12 = Value.tuple (Array.mk [Value.bool true, v14, v15]) ∧
 ∃ (v16 : Value),
 ∃ (n17 : Int),
 Reads Try.prog (Instr.entry (Value.pointer a7)) h13 (Value.tuple (Array.mk [v16, Value.int IntKind.i64 n17])) ∧
 I8 (IntKind.i64.wrap (n10 - n17)) h13 ∧ I9 (IntKind.i64.wrap (n10 - n17)) h13 < I9 n10 h11)) := by kernel_rfl

theorem nlCount (s : ByteArray) (h : Heap) (R : Value → Heap → Prop) :
    vcF Try.prog Try.f21 15 [] [] [.pointer none, .string s] h R =
(HC Try.prog (47 : Nat) (Array.mk [Value.pointer none]) h fun (v0 : Value) (h1 : Heap) =>
 ∃ (n2 : Int),
 v0 = Value.int IntKind.i64 n2 ∧
 br (n2 != (0 : Int)) (R (Value.int IntKind.i64 (0 : Int)) h1)
 (∃ (p3 : Addr),
 none = some p3 ∧
 ∃ (a4 : Option Nat),
 Reads Try.prog (Instr.loadAt (84 : Nat) (Value.pointer (some p3))) h1 (Value.map a4) ∧
 ∃ (n5 : Int), Reads Try.prog (Instr.lookup (84 : Nat) (Value.map a4) (Value.string s) false) h1 (Value.int IntKind.i64 n5) ∧ R (Value.int IntKind.i64 n5) h1)) := by kernel_rfl

theorem nlHas (s : ByteArray) (h : Heap) (R : Value → Heap → Prop) :
    vcF Try.prog Try.f23 21 [] [] [.pointer none, .string s] h R =
(HC Try.prog (47 : Nat) (Array.mk [Value.pointer none]) h fun (v0 : Value) (h1 : Heap) =>
 ∃ (n2 : Int),
 v0 = Value.int IntKind.i64 n2 ∧
 br (n2 != (0 : Int)) (R (Value.bool false) h1)
 (∃ (p3 : Addr),
 none = some p3 ∧
 ∃ (a4 : Option Nat),
 Reads Try.prog (Instr.loadAt (84 : Nat) (Value.pointer (some p3))) h1 (Value.map a4) ∧
 ∃ (n5 : Int),
 ∃ (b6 : Bool),
 Reads Try.prog (Instr.lookup (84 : Nat) (Value.map a4) (Value.string s) true) h1 (Value.tuple (Array.mk [Value.int IntKind.i64 n5, Value.bool b6])) ∧ R (Value.bool b6) h1)) := by kernel_rfl
end Go.Proofs.Ytembbemljejjbaa
