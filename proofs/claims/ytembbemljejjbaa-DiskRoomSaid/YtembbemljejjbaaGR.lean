/-
  What a call of each function comes to, as the symbolic run tells it: by the kernel's own reckoning. Conditions: none.
-/
import Derived.Test.YtembbemljejjbaaVcE
import Derived.Test.YtembbemljejjbaaProg
import Derived.KernelRfl
set_option linter.unusedVariables false
set_option maxRecDepth 100000
namespace Go.Proofs.Ytembbemljejjbaa
open Go Go.Vc Go.Proofs

theorem vcRoom (room : Int) (A : Option Addr) (n c : Nat) (h : Heap) (R : Value → Heap → Prop) :
    vcF Try.prog Try.f5 116 [] [] [.int .i64 room, .slice A n c] h R =
(HC Try.prog (13 : Nat) (Array.mk []) h fun (v0 : Value) (h1 : Heap) =>
 ∃ (b2 : Bool),
 v0 = Value.bool b2 ∧
 br (!b2) (R (Value.bool false) h1)
 (br (decide (room < (0 : Int)) || decide (room > (40 : Int)) || decide ((↑n : Int) > (60 : Int))) (R (Value.bool true) h1)
 (HC Try.prog (14 : Nat) (Array.mk [Value.int IntKind.i64 room]) h1 fun (v3 : Value) (h4 : Heap) =>
 ∃ (a5 : Option Addr),
 v3 = Value.pointer a5 ∧
 ∃ (I6 : Bool → Int → Heap → Prop),
 ∃ (I7 : Bool → Int → Heap → Nat),
 I6 false (0 : Int) h4 ∧
 ∀ (b8 : Bool) (n9 : Int) (h10 : Heap),
 I6 b8 n9 h10 →
 br (decide (n9 < (↑n : Int)))
 (∃ (p11 : Addr),
 (A = some p11 ∧ (0 : Int) ≤ n9 ∧ n9 < (↑n : Int)) ∧
 ∃ (s12 : ByteArray),
 Reads Try.prog (Instr.loadAt (9 : Nat) (Value.pointer (some (p11.add (n9.toNat * (1 : Nat)))))) h10 (Value.string s12) ∧
 br (decide ((↑s12.size : Int) > (256 : Int))) (R (Value.bool true) h10)
 (br (decide (n9 ≥ room))
 (HC Try.prog (21 : Nat) (Array.mk [Value.pointer a5, Value.string s12]) h10 fun (v13 : Value) (h14 : Heap) =>
 ∃ (n15 : Int),
 v13 = Value.int IntKind.i64 n15 ∧
 SVC Try.prog (Instr.buildSlice (22 : Nat) (1 : Nat) (Array.mk [((0 : Nat), Value.int IntKind.u8 (120 : Int))])) h14 fun (v16 : Value) (h17 : Heap) =>
 ∃ (a18 : Option Addr),
 ∃ (k19 : Nat),
 ∃ (k20 : Nat),
 v16 = Value.slice a18 k19 k20 ∧
 SVC Try.prog (convert (22 : Nat) (22 : Nat) (Value.slice a18 k19 k20)) h17 fun (v21 : Value) (h22 : Heap) =>
 ∃ (a23 : Option Addr),
 ∃ (k24 : Nat),
 ∃ (k25 : Nat),
 v21 = Value.slice a23 k24 k25 ∧
 HC Try.prog (15 : Nat) (Array.mk [Value.pointer a5, Value.string s12, Value.int IntKind.i64 n15, Value.slice a23 k24 k25]) h22
 fun (v26 : Value) (h27 : Heap) =>
 ∃ (n28 : Int),
 v26 = Value.int IntKind.i64 n28 ∧
 br (bif bif n28 == (7 : Int) then false else true then false else true)
 (HC Try.prog (22 : Nat) (Array.mk [Value.pointer a5]) h27 fun (v29 : Value) (h30 : Heap) =>
 ∃ (n31 : Int),
 v29 = Value.int IntKind.i64 n31 ∧
 ∃ (n32 : Int),
 (true = true →
 Reads Try.prog
 (Builtin.max_ (Array.mk [(3 : Nat), (3 : Nat)]) (3 : Nat)
 (Array.mk
 [Value.int IntKind.i64 (IntKind.i64.wrap (IntKind.i64.wrap (room - n9) - (1 : Int))),
 Value.int IntKind.i64 (0 : Int)]))
 h30 (Value.int IntKind.i64 n32)) ∧
 br (n31 != n32) (R (Value.bool false) h30)
 (I6 b8 (IntKind.i64.wrap (n9 + (1 : Int))) h30 ∧ I7 b8 (IntKind.i64.wrap (n9 + (1 : Int))) h30 < I7 b8 n9 h10))
 (R (Value.bool false) h27))
 (HC Try.prog (21 : Nat) (Array.mk [Value.pointer a5, Value.string s12]) h10 fun (v33 : Value) (h34 : Heap) =>
 ∃ (n35 : Int),
 v33 = Value.int IntKind.i64 n35 ∧
 SVC Try.prog (Instr.buildSlice (22 : Nat) (1 : Nat) (Array.mk [((0 : Nat), Value.int IntKind.u8 (120 : Int))])) h34 fun (v36 : Value) (h37 : Heap) =>
 ∃ (a38 : Option Addr),
 ∃ (k39 : Nat),
 ∃ (k40 : Nat),
 v36 = Value.slice a38 k39 k40 ∧
 SVC Try.prog (convert (22 : Nat) (22 : Nat) (Value.slice a38 k39 k40)) h37 fun (v41 : Value) (h42 : Heap) =>
 ∃ (a43 : Option Addr),
 ∃ (k44 : Nat),
 ∃ (k45 : Nat),
 v41 = Value.slice a43 k44 k45 ∧
 HC Try.prog (15 : Nat) (Array.mk [Value.pointer a5, Value.string s12, Value.int IntKind.i64 n35, Value.slice a43 k44 k45]) h42
 fun (v46 : Value) (h47 : Heap) =>
 ∃ (n48 : Int),
 v46 = Value.int IntKind.i64 n48 ∧
 br (bif bif n48 == (0 : Int) then false else true then false else true)
 (HC Try.prog (22 : Nat) (Array.mk [Value.pointer a5]) h47 fun (v49 : Value) (h50 : Heap) =>
 ∃ (n51 : Int),
 v49 = Value.int IntKind.i64 n51 ∧
 ∃ (n52 : Int),
 (true = true →
 Reads Try.prog
 (Builtin.max_ (Array.mk [(3 : Nat), (3 : Nat)]) (3 : Nat)
 (Array.mk
 [Value.int IntKind.i64 (IntKind.i64.wrap (IntKind.i64.wrap (room - n9) - (1 : Int))),
 Value.int IntKind.i64 (0 : Int)]))
 h50 (Value.int IntKind.i64 n52)) ∧
 br (n51 != n52) (R (Value.bool false) h50)
 (I6 b8 (IntKind.i64.wrap (n9 + (1 : Int))) h50 ∧ I7 b8 (IntKind.i64.wrap (n9 + (1 : Int))) h50 < I7 b8 n9 h10))
 (R (Value.bool false) h47))))
 (∃ (I53 : Bool → Int → Heap → Prop),
 ∃ (I54 : Bool → Int → Heap → Nat),
 I53 b8 (0 : Int) h10 ∧
 ∀ (b55 : Bool) (n56 : Int) (h57 : Heap),
 I53 b55 n56 h57 →
 br (decide (n56 < (↑n : Int)))
 (∃ (p58 : Addr),
 (A = some p58 ∧ (0 : Int) ≤ n56 ∧ n56 < (↑n : Int)) ∧
 ∃ (s59 : ByteArray),
 Reads Try.prog (Instr.loadAt (9 : Nat) (Value.pointer (some (p58.add (n56.toNat * (1 : Nat)))))) h57 (Value.string s59) ∧
 HC Try.prog (21 : Nat) (Array.mk [Value.pointer a5, Value.string s59]) h57 fun (v60 : Value) (h61 : Heap) =>
 ∃ (n62 : Int),
 v60 = Value.int IntKind.i64 n62 ∧
 HC Try.prog (22 : Nat) (Array.mk [Value.pointer a5]) h61 fun (v63 : Value) (h64 : Heap) =>
 ∃ (n65 : Int),
 v63 = Value.int IntKind.i64 n65 ∧
 HC Try.prog (23 : Nat) (Array.mk [Value.pointer a5, Value.string s59]) h64 fun (v66 : Value) (h67 : Heap) =>
 ∃ (b68 : Bool),
 v66 = Value.bool b68 ∧
 (b68 = true → (2 : Int) ≠ (0 : Int)) ∧
 br b68
 (HC Try.prog (24 : Nat)
 (Array.mk [Value.pointer a5, Value.string s59, Value.int IntKind.i64 (IntKind.i64.wrap (n62.tdiv (2 : Int)))]) h67
 fun (v69 : Value) (h70 : Heap) =>
 ∃ (n71 : Int),
 v69 = Value.int IntKind.i64 n71 ∧
 br (bif bif n71 == (0 : Int) then false else true then false else true)
 (HC Try.prog (22 : Nat) (Array.mk [Value.pointer a5]) h70 fun (v72 : Value) (h73 : Heap) =>
 ∃ (n74 : Int),
 v72 = Value.int IntKind.i64 n74 ∧
 ((true && true) = true → (2 : Int) ≠ (0 : Int)) ∧
 br
 (bif
 bif n74 == IntKind.i64.wrap (IntKind.i64.wrap (n65 + n62) - IntKind.i64.wrap (n62.tdiv (2 : Int))) then
 false
 else true then
 false
 else true)
 (HC Try.prog (25 : Nat) (Array.mk [Value.pointer a5, Value.string s59]) h73 fun (v75 : Value) (h76 : Heap) =>
 ∃ (n77 : Int),
 v75 = Value.int IntKind.i64 n77 ∧
 br (bif bif n77 == (0 : Int) then false else true then false else true)
 (HC Try.prog (22 : Nat) (Array.mk [Value.pointer a5]) h76 fun (v78 : Value) (h79 : Heap) =>
 ∃ (n80 : Int),
 v78 = Value.int IntKind.i64 n80 ∧
 br (n80 != IntKind.i64.wrap (n65 + n62)) (R (Value.bool false) h79)
 (I53 b55 (IntKind.i64.wrap (n56 + (1 : Int))) h79 ∧
 I54 b55 (IntKind.i64.wrap (n56 + (1 : Int))) h79 < I54 b55 n56 h57))
 (R (Value.bool false) h76))
 (R (Value.bool false) h73))
 (R (Value.bool false) h70))
 (I53 b55 (IntKind.i64.wrap (n56 + (1 : Int))) h67 ∧ I54 b55 (IntKind.i64.wrap (n56 + (1 : Int))) h67 < I54 b55 n56 h57))
 (HC Try.prog (22 : Nat) (Array.mk [Value.pointer a5]) h57 fun (v81 : Value) (h82 : Heap) =>
 ∃ (n83 : Int), v81 = Value.int IntKind.i64 n83 ∧ R (Value.bool (n83 == room)) h82))))) := by kernel_rfl
end Go.Proofs.Ytembbemljejjbaa
