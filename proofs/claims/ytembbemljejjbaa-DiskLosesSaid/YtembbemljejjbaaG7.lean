/-
  What a call of each function comes to, as the symbolic run tells it: by the kernel's own reckoning. Conditions: none.
-/
import Derived.Test.YtembbemljejjbaaVcE
import Derived.Test.YtembbemljejjbaaProg
import Derived.KernelRfl
set_option linter.unusedVariables false
set_option maxRecDepth 100000
namespace Go.Proofs.Ytembbemljejjbaa
open Go Go.Vc Go.Proofs

theorem vcRenames (A0 : Option Addr) (n0 c0 : Nat) (A1 : Option Addr) (n1 c1 : Nat) (n keep : Int) (h : Heap) (R : Value → Heap → Prop) :
    vcF Try.prog Try.f7 127 [26, 28, 33] [] [.slice A0 n0 c0, .slice A1 n1 c1, .int .i64 n, .int .u64 keep] h R =
(HC Try.prog (13 : Nat) (Array.mk []) h fun (v0 : Value) (h1 : Heap) =>
 ∃ (b2 : Bool),
 v0 = Value.bool b2 ∧
 br (!b2) (R (Value.bool false) h1)
 (br (decide ((↑n0 : Int) > (8 : Int)) || decide ((↑n1 : Int) > (8 : Int)) || (↑n0 : Int) == (0 : Int) || (↑n1 : Int) == (0 : Int)) (R (Value.bool true) h1)
 (HC Try.prog (14 : Nat) (Array.mk [Value.int IntKind.i64 (40 : Int)]) h1 fun (v3 : Value) (h4 : Heap) =>
 ∃ (a5 : Option Addr),
 v3 = Value.pointer a5 ∧
 ∃ (I6 : Bool → Int → Heap → Prop),
 ∃ (I7 : Bool → Int → Heap → Nat),
 I6 false (0 : Int) h4 ∧
 ∀ (b8 : Bool) (n9 : Int) (h10 : Heap),
 I6 b8 n9 h10 →
 br (decide (n9 < (↑n0 : Int)))
 (∃ (p11 : Addr),
 (A0 = some p11 ∧ (0 : Int) ≤ n9 ∧ n9 < (↑n0 : Int)) ∧
 ∃ (a12 : Option Addr),
 ∃ (k13 : Nat),
 ∃ (k14 : Nat),
 Reads Try.prog (Instr.loadAt (22 : Nat) (Value.pointer (some (p11.add (n9.toNat * (1 : Nat)))))) h10 (Value.slice a12 k13 k14) ∧
 br (decide ((↑k13 : Int) > (512 : Int))) (R (Value.bool true) h10)
 (HC Try.prog (15 : Nat)
 (Array.mk [Value.pointer a5, Value.string (ByteArray.mk (Array.mk [(102 : UInt8)])), Value.int IntKind.i64 n9, Value.slice a12 k13 k14]) h10
 fun (v15 : Value) (h16 : Heap) =>
 ∃ (n17 : Int),
 v15 = Value.int IntKind.i64 n17 ∧ I6 b8 (IntKind.i64.wrap (n9 + (1 : Int))) h16 ∧ I7 b8 (IntKind.i64.wrap (n9 + (1 : Int))) h16 < I7 b8 n9 h10))
 (HC Try.prog (17 : Nat) (Array.mk [Value.pointer a5, Value.string (ByteArray.mk (Array.mk [(102 : UInt8)]))]) h10 fun (v18 : Value) (h19 : Heap) =>
 ∃ (n20 : Int),
 v18 = Value.int IntKind.i64 n20 ∧
 HC Try.prog (18 : Nat) (Array.mk [Value.pointer a5, Value.int IntKind.i64 n, Value.int IntKind.u64 keep]) h19 fun (v21 : Value) (h22 : Heap) =>
 v21 = Value.tuple (Array.mk []) ∧
 ∃ (I23 : Bool → Int → Int → Heap → Prop),
 ∃ (I24 : Bool → Int → Int → Heap → Nat),
 I23 b8 (0 : Int) (0 : Int) h22 ∧
 ∀ (b25 : Bool) (n26 n27 : Int) (h28 : Heap),
 I23 b25 n26 n27 h28 →
 br (decide (n27 < (↑n1 : Int)))
 (∃ (p29 : Addr),
 (A1 = some p29 ∧ (0 : Int) ≤ n27 ∧ n27 < (↑n1 : Int)) ∧
 ∃ (a30 : Option Addr),
 ∃ (k31 : Nat),
 ∃ (k32 : Nat),
 Reads Try.prog (Instr.loadAt (22 : Nat) (Value.pointer (some (p29.add (n27.toNat * (1 : Nat)))))) h28 (Value.slice a30 k31 k32) ∧
 br (decide ((↑k31 : Int) > (512 : Int))) (R (Value.bool true) h28)
 (br (n26 == (0 : Int))
 (HC Try.prog (15 : Nat)
 (Array.mk
 [Value.pointer a5, Value.string (ByteArray.mk (Array.mk [(116 : UInt8)])), Value.int IntKind.i64 n27, Value.slice a30 k31 k32])
 h28 fun (v33 : Value) (h34 : Heap) =>
 ∃ (n35 : Int),
 v33 = Value.int IntKind.i64 n35 ∧
 I23 b25 n35 (IntKind.i64.wrap (n27 + (1 : Int))) h34 ∧
 I24 b25 n35 (IntKind.i64.wrap (n27 + (1 : Int))) h34 < I24 b25 n26 n27 h28)
 (I23 b25 n26 (IntKind.i64.wrap (n27 + (1 : Int))) h28 ∧ I24 b25 n26 (IntKind.i64.wrap (n27 + (1 : Int))) h28 < I24 b25 n26 n27 h28)))
 (∃ (I36 : Int → Heap → Prop),
 br (n26 == (0 : Int))
 (HC Try.prog (17 : Nat) (Array.mk [Value.pointer a5, Value.string (ByteArray.mk (Array.mk [(116 : UInt8)]))]) h28
 fun (v37 : Value) (h38 : Heap) => ∃ (n39 : Int), v37 = Value.int IntKind.i64 n39 ∧ I36 n39 h38)
 (I36 n26 h28) ∧
 ∀ (n40 : Int) (h41 : Heap),
 I36 n40 h41 →
 ∃ (I42 : Int → Heap → Prop),
 br (n40 == (0 : Int))
 (HC Try.prog (26 : Nat)
 (Array.mk
 [Value.pointer a5, Value.string (ByteArray.mk (Array.mk [(116 : UInt8)])), Value.string (ByteArray.mk (Array.mk [(102 : UInt8)]))])
 h41 fun (v43 : Value) (h44 : Heap) => ∃ (n45 : Int), v43 = Value.int IntKind.i64 n45 ∧ I42 n45 h44)
 (I42 n40 h41) ∧
 ∀ (n46 : Int) (h47 : Heap),
 I42 n46 h47 →
 HC Try.prog (19 : Nat) (Array.mk [Value.pointer a5, Value.int IntKind.u64 keep]) h47 fun (v48 : Value) (h49 : Heap) =>
 v48 = Value.tuple (Array.mk []) ∧
 HC Try.prog (20 : Nat) (Array.mk [Value.pointer a5]) h49 fun (v50 : Value) (h51 : Heap) =>
 v50 = Value.tuple (Array.mk []) ∧
 ∃ (I52 : Option Addr → Nat → Nat → Heap → Prop),
 br (n46 != (0 : Int)) (I52 A0 n0 c0 h51) (I52 A1 n1 c1 h51) ∧
 ∀ (a53 : Option Addr) (k54 k55 : Nat) (h56 : Heap),
 I52 a53 k54 k55 h56 →
 HC Try.prog (21 : Nat) (Array.mk [Value.pointer a5, Value.string (ByteArray.mk (Array.mk [(102 : UInt8)]))]) h56
 fun (v57 : Value) (h58 : Heap) =>
 ∃ (n59 : Int),
 v57 = Value.int IntKind.i64 n59 ∧
 br (n59 != (↑k54 : Int)) (R (Value.bool false) h58)
 (∃ (I60 : Bool → Int → Heap → Prop),
 ∃ (I61 : Bool → Int → Heap → Nat),
 I60 b25 (0 : Int) h58 ∧
 ∀ (b62 : Bool) (n63 : Int) (h64 : Heap),
 I60 b62 n63 h64 →
 br (decide (n63 < (↑k54 : Int)))
 (∃ (p65 : Addr),
 (a53 = some p65 ∧ (0 : Int) ≤ n63 ∧ n63 < (↑k54 : Int)) ∧
 ∃ (a66 : Option Addr),
 ∃ (k67 : Nat),
 ∃ (k68 : Nat),
 Reads Try.prog
 (Instr.loadAt (22 : Nat) (Value.pointer (some (p65.add (n63.toNat * (1 : Nat))))))
 h64 (Value.slice a66 k67 k68) ∧
 HC Try.prog (16 : Nat)
 (Array.mk
 [Value.pointer a5, Value.string (ByteArray.mk (Array.mk [(102 : UInt8)])),
 Value.int IntKind.i64 n63])
 h64 fun (v69 : Value) (h70 : Heap) =>
 ∃ (a71 : Option Addr),
 ∃ (k72 : Nat),
 ∃ (k73 : Nat),
 ∃ (n74 : Int),
 v69 =
 Value.tuple
 (Array.mk [Value.slice a71 k72 k73, Value.int IntKind.i64 n74]) ∧
 ((!n74 != (0 : Int)) = true →
 (0 : Int) ≤ (↑k67 : Int) ∧
 (↑k67 : Int) ≤ (↑k73 : Int) ∧ (↑k73 : Int) ≤ (↑k73 : Int)) ∧
 ∃ (s75 : ByteArray),
 ((!n74 != (0 : Int)) = true →
 Reads Try.prog
 (convert (22 : Nat) (9 : Nat) (Value.slice a71 k67 k73)) h70
 (Value.string s75)) ∧
 ∃ (s76 : ByteArray),
 ((!n74 != (0 : Int)) = true →
 Reads Try.prog
 (convert (22 : Nat) (9 : Nat) (Value.slice a66 k67 k68)) h70
 (Value.string s76)) ∧
 br (n74 != (0 : Int) || !s75.toList == s76.toList)
 (R (Value.bool false) h70)
 (I60 b62 (IntKind.i64.wrap (n63 + (1 : Int))) h70 ∧
 I61 b62 (IntKind.i64.wrap (n63 + (1 : Int))) h70 <
 I61 b62 n63 h64))
 (R (Value.bool true) h64))))))) := by kernel_rfl
end Go.Proofs.Ytembbemljejjbaa
