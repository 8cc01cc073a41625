/-
  What a call of each function comes to, as the symbolic run tells it: by the kernel's own reckoning. Conditions: none.
-/
import Derived.Test.YtembbemljejjbaaVcE
import Derived.Test.YtembbemljejjbaaProg
import Derived.KernelRfl
set_option linter.unusedVariables false
set_option maxRecDepth 100000
namespace Go.Proofs.Ytembbemljejjbaa
open Go Go.Vc Go.Proofs

theorem vcCuts (pages cut : Int) (syncs : Bool) (keep : Int) (h : Heap) (R : Value → Heap → Prop) :
    vcF Try.prog Try.f6 100 [13] [] [.int .i64 pages, .int .i64 cut, .bool syncs, .int .u64 keep] h R =
(HC Try.prog (13 : Nat) (Array.mk []) h fun (v0 : Value) (h1 : Heap) =>
 ∃ (b2 : Bool),
 v0 = Value.bool b2 ∧
 br (!b2) (R (Value.bool false) h1)
 (br (decide (pages < (1 : Int)) || decide (pages > (20 : Int)) || decide (cut < (0 : Int)) || decide (cut > (20 : Int))) (R (Value.bool true) h1)
 (HC Try.prog (14 : Nat) (Array.mk [Value.int IntKind.i64 (50 : Int)]) h1 fun (v3 : Value) (h4 : Heap) =>
 ∃ (a5 : Option Addr),
 v3 = Value.pointer a5 ∧
 ∃ (I6 : Int → Heap → Prop),
 ∃ (I7 : Int → Heap → Nat),
 I6 (0 : Int) h4 ∧
 ∀ (n8 : Int) (h9 : Heap),
 I6 n8 h9 →
 br (decide (n8 < pages))
 (SVC Try.prog (Instr.buildSlice (22 : Nat) (1 : Nat) (Array.mk [((0 : Nat), Value.int IntKind.u8 (IntKind.u8.wrap n8))])) h9 fun (v10 : Value) (h11 : Heap) =>
 ∃ (a12 : Option Addr),
 ∃ (k13 : Nat),
 ∃ (k14 : Nat),
 v10 = Value.slice a12 k13 k14 ∧
 HC Try.prog (15 : Nat) (Array.mk [Value.pointer a5, Value.string (ByteArray.mk (Array.mk [(102 : UInt8)])), Value.int IntKind.i64 n8, Value.slice a12 k13 k14])
 h11 fun (v15 : Value) (h16 : Heap) =>
 ∃ (n17 : Int),
 v15 = Value.int IntKind.i64 n17 ∧
 SVC Try.prog (Instr.buildSlice (22 : Nat) (1 : Nat) (Array.mk [((0 : Nat), Value.int IntKind.u8 (IntKind.u8.wrap n8))])) h16
 fun (v18 : Value) (h19 : Heap) =>
 ∃ (a20 : Option Addr),
 ∃ (k21 : Nat),
 ∃ (k22 : Nat),
 v18 = Value.slice a20 k21 k22 ∧
 HC Try.prog (15 : Nat)
 (Array.mk [Value.pointer a5, Value.string (ByteArray.mk (Array.mk [(103 : UInt8)])), Value.int IntKind.i64 n8, Value.slice a20 k21 k22]) h19
 fun (v23 : Value) (h24 : Heap) =>
 ∃ (n25 : Int),
 v23 = Value.int IntKind.i64 n25 ∧ I6 (IntKind.i64.wrap (n8 + (1 : Int))) h24 ∧ I7 (IntKind.i64.wrap (n8 + (1 : Int))) h24 < I7 n8 h9)
 (∃ (I26 : Heap → Prop),
 br syncs
 (HC Try.prog (17 : Nat) (Array.mk [Value.pointer a5, Value.string (ByteArray.mk (Array.mk [(102 : UInt8)]))]) h9 fun (v27 : Value) (h28 : Heap) =>
 ∃ (n29 : Int), v27 = Value.int IntKind.i64 n29 ∧ I26 h28)
 (I26 h9) ∧
 ∀ (h30 : Heap),
 I26 h30 →
 HC Try.prog (24 : Nat) (Array.mk [Value.pointer a5, Value.string (ByteArray.mk (Array.mk [(102 : UInt8)])), Value.int IntKind.i64 cut]) h30
 fun (v31 : Value) (h32 : Heap) =>
 ∃ (n33 : Int),
 v31 = Value.int IntKind.i64 n33 ∧
 br (bif bif n33 == (0 : Int) then false else true then false else true)
 (HC Try.prog (25 : Nat) (Array.mk [Value.pointer a5, Value.string (ByteArray.mk (Array.mk [(103 : UInt8)]))]) h32 fun (v34 : Value) (h35 : Heap) =>
 ∃ (n36 : Int),
 v34 = Value.int IntKind.i64 n36 ∧
 br (n36 != (0 : Int)) (R (Value.bool false) h35)
 (HC Try.prog (19 : Nat) (Array.mk [Value.pointer a5, Value.int IntKind.u64 keep]) h35 fun (v37 : Value) (h38 : Heap) =>
 v37 = Value.tuple (Array.mk []) ∧
 HC Try.prog (20 : Nat) (Array.mk [Value.pointer a5]) h38 fun (v39 : Value) (h40 : Heap) =>
 v39 = Value.tuple (Array.mk []) ∧
 HC Try.prog (21 : Nat) (Array.mk [Value.pointer a5, Value.string (ByteArray.mk (Array.mk [(102 : UInt8)]))]) h40
 fun (v41 : Value) (h42 : Heap) =>
 ∃ (n43 : Int),
 v41 = Value.int IntKind.i64 n43 ∧
 ∃ (n44 : Int),
 ((!!syncs && (decide (n43 ≤ cut) && decide (n43 ≤ pages))) = true →
 Reads Try.prog
 (Builtin.min_ (Array.mk [(3 : Nat), (3 : Nat)]) (3 : Nat) (Array.mk [Value.int IntKind.i64 cut, Value.int IntKind.i64 pages]))
 h42 (Value.int IntKind.i64 n44)) ∧
 br (decide (n43 ≤ cut) && decide (n43 ≤ pages) && (!syncs || n43 == n44))
 (HC Try.prog (23 : Nat) (Array.mk [Value.pointer a5, Value.string (ByteArray.mk (Array.mk [(102 : UInt8)]))]) h42
 fun (v45 : Value) (h46 : Heap) =>
 ∃ (b47 : Bool),
 v45 = Value.bool b47 ∧
 br b47
 (HC Try.prog (23 : Nat) (Array.mk [Value.pointer a5, Value.string (ByteArray.mk (Array.mk [(103 : UInt8)]))]) h46
 fun (v48 : Value) (h49 : Heap) =>
 ∃ (b50 : Bool),
 v48 = Value.bool b50 ∧
 br (bif b50 then false else true)
 (HC Try.prog (22 : Nat) (Array.mk [Value.pointer a5]) h49 fun (v51 : Value) (h52 : Heap) =>
 ∃ (n53 : Int),
 v51 = Value.int IntKind.i64 n53 ∧ R (Value.bool (n53 == IntKind.i64.wrap ((50 : Int) - n43))) h52)
 (R (Value.bool false) h49))
 (R (Value.bool false) h46))
 (R (Value.bool false) h42)))
 (R (Value.bool false) h32))))) := by kernel_rfl
end Go.Proofs.Ytembbemljejjbaa
