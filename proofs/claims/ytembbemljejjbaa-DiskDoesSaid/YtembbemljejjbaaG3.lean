/-
  What a call of each function comes to, as the symbolic run tells it: by the kernel's own reckoning. Conditions: none.
-/
import Derived.Test.YtembbemljejjbaaVcE
import Derived.Test.YtembbemljejjbaaProg
import Derived.KernelRfl
set_option linter.unusedVariables false
set_option maxRecDepth 100000
namespace Go.Proofs.Ytembbemljejjbaa
open Go Go.Vc Go.Proofs

theorem vcAlive (h : Heap) (R : Value → Heap → Prop) :
    vcF Try.prog Try.f13 61 [] [] [] h R =
(HC Try.prog (14 : Nat) (Array.mk [Value.int IntKind.i64 (5 : Int)]) h fun (v0 : Value) (h1 : Heap) =>
 ∃ (a2 : Option Addr),
 v0 = Value.pointer a2 ∧
 SVC Try.prog (Instr.buildSlice (22 : Nat) (1 : Nat) (Array.mk [((0 : Nat), Value.int IntKind.u8 (120 : Int))])) h1 fun (v3 : Value) (h4 : Heap) =>
 ∃ (a5 : Option Addr),
 ∃ (k6 : Nat),
 ∃ (k7 : Nat),
 v3 = Value.slice a5 k6 k7 ∧
 SVC Try.prog (convert (22 : Nat) (22 : Nat) (Value.slice a5 k6 k7)) h4 fun (v8 : Value) (h9 : Heap) =>
 ∃ (a10 : Option Addr),
 ∃ (k11 : Nat),
 ∃ (k12 : Nat),
 v8 = Value.slice a10 k11 k12 ∧
 HC Try.prog (15 : Nat) (Array.mk [Value.pointer a2, Value.string (ByteArray.mk (Array.mk [(97 : UInt8)])), Value.int IntKind.i64 (0 : Int), Value.slice a10 k11 k12]) h9
 fun (v13 : Value) (h14 : Heap) =>
 ∃ (n15 : Int),
 v13 = Value.int IntKind.i64 n15 ∧
 br (bif bif n15 == (0 : Int) then false else true then false else true)
 (SVC Try.prog (Instr.buildSlice (22 : Nat) (1 : Nat) (Array.mk [((0 : Nat), Value.int IntKind.u8 (121 : Int))])) h14 fun (v16 : Value) (h17 : Heap) =>
 ∃ (a18 : Option Addr),
 ∃ (k19 : Nat),
 ∃ (k20 : Nat),
 v16 = Value.slice a18 k19 k20 ∧
 SVC Try.prog (convert (22 : Nat) (22 : Nat) (Value.slice a18 k19 k20)) h17 fun (v21 : Value) (h22 : Heap) =>
 ∃ (a23 : Option Addr),
 ∃ (k24 : Nat),
 ∃ (k25 : Nat),
 v21 = Value.slice a23 k24 k25 ∧
 HC Try.prog (15 : Nat)
 (Array.mk [Value.pointer a2, Value.string (ByteArray.mk (Array.mk [(97 : UInt8)])), Value.int IntKind.i64 (1 : Int), Value.slice a23 k24 k25])
 h22 fun (v26 : Value) (h27 : Heap) =>
 ∃ (n28 : Int),
 v26 = Value.int IntKind.i64 n28 ∧
 br (n28 != (0 : Int)) (R (Value.bool false) h27)
 (HC Try.prog (19 : Nat) (Array.mk [Value.pointer a2, Value.int IntKind.u64 (2 : Int)]) h27 fun (v29 : Value) (h30 : Heap) =>
 v29 = Value.tuple (Array.mk []) ∧
 HC Try.prog (20 : Nat) (Array.mk [Value.pointer a2]) h30 fun (v31 : Value) (h32 : Heap) =>
 v31 = Value.tuple (Array.mk []) ∧
 HC Try.prog (16 : Nat)
 (Array.mk [Value.pointer a2, Value.string (ByteArray.mk (Array.mk [(97 : UInt8)])), Value.int IntKind.i64 (0 : Int)]) h32
 fun (v33 : Value) (h34 : Heap) =>
 ∃ (a35 : Option Addr),
 ∃ (k36 : Nat),
 ∃ (k37 : Nat),
 ∃ (n38 : Int),
 v33 = Value.tuple (Array.mk [Value.slice a35 k36 k37, Value.int IntKind.i64 n38]) ∧
 HC Try.prog (16 : Nat)
 (Array.mk
 [Value.pointer a2, Value.string (ByteArray.mk (Array.mk [(97 : UInt8)])), Value.int IntKind.i64 (1 : Int)])
 h34 fun (v39 : Value) (h40 : Heap) =>
 ∃ (a41 : Option Addr),
 ∃ (k42 : Nat),
 ∃ (k43 : Nat),
 ∃ (n44 : Int),
 v39 = Value.tuple (Array.mk [Value.slice a41 k42 k43, Value.int IntKind.i64 n44]) ∧
 ∃ (p45 : Addr),
 ((n38 == (0 : Int) && n44 == (0 : Int) && (↑k36 : Int) == (512 : Int)) = true →
 a35 = some p45 ∧ (0 : Int) ≤ (0 : Int) ∧ (0 : Int) < (↑k36 : Int)) ∧
 ∃ (n46 : Int),
 ((n38 == (0 : Int) && n44 == (0 : Int) && (↑k36 : Int) == (512 : Int)) = true →
 Reads Try.prog (Instr.loadAt (5 : Nat) (Value.pointer (some p45))) h40
 (Value.int IntKind.u8 n46)) ∧
 ∃ (p47 : Addr),
 ((n38 == (0 : Int) && n44 == (0 : Int) && (↑k36 : Int) == (512 : Int) && n46 == (0 : Int)) =
 true →
 a41 = some p47 ∧ (0 : Int) ≤ (0 : Int) ∧ (0 : Int) < (↑k42 : Int)) ∧
 ∃ (n48 : Int),
 ((n38 == (0 : Int) && n44 == (0 : Int) && (↑k36 : Int) == (512 : Int) && n46 == (0 : Int)) =
 true →
 Reads Try.prog (Instr.loadAt (5 : Nat) (Value.pointer (some p47))) h40
 (Value.int IntKind.u8 n48)) ∧
 br
 (n38 == (0 : Int) && n44 == (0 : Int) && (↑k36 : Int) == (512 : Int) &&
 n46 == (0 : Int) &&
 n48 == (121 : Int))
 (HC Try.prog (22 : Nat) (Array.mk [Value.pointer a2]) h40
 fun (v49 : Value) (h50 : Heap) =>
 ∃ (n51 : Int),
 v49 = Value.int IntKind.i64 n51 ∧ R (Value.bool (n51 == (3 : Int))) h50)
 (R (Value.bool false) h40)))
 (R (Value.bool false) h14)) := by kernel_rfl

theorem vcKeeps (A : Option Addr) (n c : Nat) (h : Heap) (R : Value → Heap → Prop) :
    vcF Try.prog Try.f3 69 [] [] [.slice A n c] h R =
(HC Try.prog (13 : Nat) (Array.mk []) h fun (v0 : Value) (h1 : Heap) =>
 ∃ (b2 : Bool),
 v0 = Value.bool b2 ∧
 br (!b2) (R (Value.bool false) h1)
 (br (decide ((↑n : Int) > (512 : Int))) (R (Value.bool true) h1)
 (SVC Try.prog (Instr.buildSlice (22 : Nat) (0 : Nat) (Array.mk [])) h1 fun (v3 : Value) (h4 : Heap) =>
 ∃ (a5 : Option Addr),
 ∃ (k6 : Nat),
 ∃ (k7 : Nat),
 v3 = Value.slice a5 k6 k7 ∧
 SVC Try.prog (Builtin.append_ (Array.mk [(22 : Nat), (22 : Nat)]) (22 : Nat) (Array.mk [Value.slice a5 k6 k7, Value.slice A n c])) h4 fun (v8 : Value) (h9 : Heap) =>
 ∃ (a10 : Option Addr),
 ∃ (k11 : Nat),
 ∃ (k12 : Nat),
 v8 = Value.slice a10 k11 k12 ∧
 HC Try.prog (14 : Nat) (Array.mk [Value.int IntKind.i64 (4 : Int)]) h9 fun (v13 : Value) (h14 : Heap) =>
 ∃ (a15 : Option Addr),
 v13 = Value.pointer a15 ∧
 HC Try.prog (15 : Nat)
 (Array.mk [Value.pointer a15, Value.string (ByteArray.mk (Array.mk [(102 : UInt8)])), Value.int IntKind.i64 (0 : Int), Value.slice a10 k11 k12]) h14
 fun (v16 : Value) (h17 : Heap) =>
 ∃ (n18 : Int),
 v16 = Value.int IntKind.i64 n18 ∧
 ∃ (I19 : Int → Heap → Prop),
 ∃ (I20 : Int → Heap → Nat),
 I19 (0 : Int) h17 ∧
 ∀ (n21 : Int) (h22 : Heap),
 I19 n21 h22 →
 br (decide (n21 < (↑k11 : Int)))
 (∃ (p23 : Addr),
 (a10 = some p23 ∧ (0 : Int) ≤ n21 ∧ n21 < (↑k11 : Int)) ∧
 ∃ (n24 : Int),
 Reads Try.prog (Instr.loadAt (5 : Nat) (Value.pointer (some (p23.add (n21.toNat * (1 : Nat)))))) h22 (Value.int IntKind.u8 n24) ∧
 ∃ (p25 : Addr),
 (a10 = some p25 ∧ (0 : Int) ≤ n21 ∧ n21 < (↑k11 : Int)) ∧
 SVC Try.prog
 (Instr.storeAt (5 : Nat) (Value.pointer (some (p25.add (n21.toNat * (1 : Nat)))))
 (Value.int IntKind.u8 (IntKind.u8.wrap (n24 + (1 : Int)))))
 h22 fun (x26 : Unit) (h27 : Heap) =>
 I19 (IntKind.i64.wrap (n21 + (1 : Int))) h27 ∧ I20 (IntKind.i64.wrap (n21 + (1 : Int))) h27 < I20 n21 h22)
 (HC Try.prog (16 : Nat) (Array.mk [Value.pointer a15, Value.string (ByteArray.mk (Array.mk [(102 : UInt8)])), Value.int IntKind.i64 (0 : Int)])
 h22 fun (v28 : Value) (h29 : Heap) =>
 ∃ (a30 : Option Addr),
 ∃ (k31 : Nat),
 ∃ (k32 : Nat),
 ∃ (n33 : Int),
 v28 = Value.tuple (Array.mk [Value.slice a30 k31 k32, Value.int IntKind.i64 n33]) ∧
 ∃ (I34 : Int → Heap → Prop),
 ∃ (I35 : Int → Heap → Nat),
 I34 (0 : Int) h29 ∧
 ∀ (n36 : Int) (h37 : Heap),
 I34 n36 h37 →
 br (decide (n36 < (↑k31 : Int)))
 (∃ (p38 : Addr),
 (a30 = some p38 ∧ (0 : Int) ≤ n36 ∧ n36 < (↑k31 : Int)) ∧
 ∃ (n39 : Int),
 Reads Try.prog (Instr.loadAt (5 : Nat) (Value.pointer (some (p38.add (n36.toNat * (1 : Nat)))))) h37
 (Value.int IntKind.u8 n39) ∧
 ∃ (p40 : Addr),
 (a30 = some p40 ∧ (0 : Int) ≤ n36 ∧ n36 < (↑k31 : Int)) ∧
 SVC Try.prog
 (Instr.storeAt (5 : Nat) (Value.pointer (some (p40.add (n36.toNat * (1 : Nat)))))
 (Value.int IntKind.u8 (IntKind.u8.wrap (n39 + (1 : Int)))))
 h37 fun (x41 : Unit) (h42 : Heap) =>
 I34 (IntKind.i64.wrap (n36 + (1 : Int))) h42 ∧ I35 (IntKind.i64.wrap (n36 + (1 : Int))) h42 < I35 n36 h37)
 (HC Try.prog (16 : Nat)
 (Array.mk [Value.pointer a15, Value.string (ByteArray.mk (Array.mk [(102 : UInt8)])), Value.int IntKind.i64 (0 : Int)])
 h37 fun (v43 : Value) (h44 : Heap) =>
 ∃ (a45 : Option Addr),
 ∃ (k46 : Nat),
 ∃ (k47 : Nat),
 ∃ (n48 : Int),
 v43 = Value.tuple (Array.mk [Value.slice a45 k46 k47, Value.int IntKind.i64 n48]) ∧
 ((n48 == (0 : Int)) = true →
 (0 : Int) ≤ (↑n : Int) ∧ (↑n : Int) ≤ (↑k47 : Int) ∧ (↑k47 : Int) ≤ (↑k47 : Int)) ∧
 ∃ (s49 : ByteArray),
 ((n48 == (0 : Int)) = true →
 Reads Try.prog (convert (22 : Nat) (9 : Nat) (Value.slice a45 n k47)) h44 (Value.string s49)) ∧
 ∃ (s50 : ByteArray),
 ((n48 == (0 : Int)) = true →
 Reads Try.prog (convert (22 : Nat) (9 : Nat) (Value.slice A n c)) h44 (Value.string s50)) ∧
 R (Value.bool (n48 == (0 : Int) && s49.toList == s50.toList)) h44))))) := by kernel_rfl
end Go.Proofs.Ytembbemljejjbaa
