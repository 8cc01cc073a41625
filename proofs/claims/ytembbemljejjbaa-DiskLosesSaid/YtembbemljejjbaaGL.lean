/-
  What a call of each function comes to, as the symbolic run tells it: by the kernel's own reckoning. Conditions: none.
-/
import Derived.Test.YtembbemljejjbaaVcE
import Derived.Test.YtembbemljejjbaaProg
import Derived.KernelRfl
set_option linter.unusedVariables false
set_option maxRecDepth 100000
namespace Go.Proofs.Ytembbemljejjbaa
open Go Go.Vc Go.Proofs

theorem vcLoses (A0 : Option Addr) (n0 c0 : Nat) (A1 : Option Addr) (n1 c1 : Nat) (A2 : Option Addr) (n2 c2 : Nat) (n keep : Int) (h : Heap) (R : Value → Heap → Prop) :
    vcF Try.prog Try.f4 183 [33, 35] [] [.slice A0 n0 c0, .slice A1 n1 c1, .slice A2 n2 c2, .int .i64 n, .int .u64 keep] h R =
(HC Try.prog (13 : Nat) (Array.mk []) h fun (v0 : Value) (h1 : Heap) =>
 ∃ (b2 : Bool),
 v0 = Value.bool b2 ∧
 br (!b2) (R (Value.bool false) h1)
 (br (decide ((↑n0 : Int) > (40 : Int)) || decide ((↑n1 : Int) < (↑n0 : Int)) || decide ((↑n2 : Int) < (↑n0 : Int))) (R (Value.bool true) h1)
 (HC Try.prog (14 : Nat) (Array.mk [Value.int IntKind.i64 (20 : Int)]) h1 fun (v3 : Value) (h4 : Heap) =>
 ∃ (a5 : Option Addr),
 v3 = Value.pointer a5 ∧
 ∃ (I6 : Int → Heap → Prop),
 ∃ (I7 : Int → Heap → Nat),
 I6 (0 : Int) h4 ∧
 ∀ (n8 : Int) (h9 : Heap),
 I6 n8 h9 →
 br (decide (n8 < (6 : Int)))
 (HC Try.prog (15 : Nat)
 (Array.mk [Value.pointer a5, Value.string (ByteArray.mk (Array.mk [(102 : UInt8)])), Value.int IntKind.i64 n8, Value.slice none (0 : Nat) (0 : Nat)]) h9
 fun (v10 : Value) (h11 : Heap) =>
 ∃ (n12 : Int), v10 = Value.int IntKind.i64 n12 ∧ I6 (IntKind.i64.wrap (n8 + (1 : Int))) h11 ∧ I7 (IntKind.i64.wrap (n8 + (1 : Int))) h11 < I7 n8 h9)
 (HC Try.prog (17 : Nat) (Array.mk [Value.pointer a5, Value.string (ByteArray.mk (Array.mk [(102 : UInt8)]))]) h9 fun (v13 : Value) (h14 : Heap) =>
 ∃ (n15 : Int),
 v13 = Value.int IntKind.i64 n15 ∧
 HC Try.prog (18 : Nat) (Array.mk [Value.pointer a5, Value.int IntKind.i64 n, Value.int IntKind.u64 keep]) h14 fun (v16 : Value) (h17 : Heap) =>
 v16 = Value.tuple (Array.mk []) ∧
 ∃ (h18 : Array Value),
 IsZ Try.prog (38 : Nat) h18 ∧
 ∃ (I19 : Int → Heap → Prop),
 ∃ (I20 : Int → Heap → Nat),
 I19 (0 : Int) (Array.push h17 (Obj.cells h18 (38 : Nat))) ∧
 ∀ (n21 : Int) (h22 : Heap),
 I19 n21 h22 →
 br (decide (n21 < (6 : Int)))
 (SVC Try.prog (Instr.makeSlice (22 : Nat) (Value.int IntKind.i64 (512 : Int)) (Value.int IntKind.i64 (512 : Int))) h22
 fun (v23 : Value) (h24 : Heap) =>
 ∃ (a25 : Option Addr),
 ∃ (k26 : Nat),
 ∃ (k27 : Nat),
 v23 = Value.slice a25 k26 k27 ∧
 ∃ (s28 : ByteArray),
 Reads Try.prog (convert (22 : Nat) (9 : Nat) (Value.slice a25 k26 k27)) h24 (Value.string s28) ∧
 SVC Try.prog (Instr.buildSlice (37 : Nat) (1 : Nat) (Array.mk [((0 : Nat), Value.string s28)])) h24
 fun (v29 : Value) (h30 : Heap) =>
 ∃ (a31 : Option Addr),
 ∃ (k32 : Nat),
 ∃ (k33 : Nat),
 v29 = Value.slice a31 k32 k33 ∧
 ((0 : Int) ≤ n21 ∧ n21 < (↑(6 : Nat) : Int)) ∧
 SVC Try.prog
 (Instr.storeAt (37 : Nat)
 (Value.pointer (some ((Addr.mk (Array.size h17) (0 : Nat) none).add (n21.toNat * (1 : Nat)))))
 (Value.slice a31 k32 k33))
 h30 fun (x34 : Unit) (h35 : Heap) =>
 I19 (IntKind.i64.wrap (n21 + (1 : Int))) h35 ∧ I20 (IntKind.i64.wrap (n21 + (1 : Int))) h35 < I20 n21 h22)
 (∃ (I36 : Bool → Heap → Prop),
 (∃ (I37 : Bool → Int → Heap → Prop),
 ∃ (I38 : Bool → Int → Heap → Nat),
 I37 false (0 : Int) h22 ∧
 ∀ (b39 : Bool) (n40 : Int) (h41 : Heap),
 I37 b39 n40 h41 →
 br (decide (n40 < (↑n0 : Int)))
 (∃ (p42 : Addr),
 (A0 = some p42 ∧ (0 : Int) ≤ n40 ∧ n40 < (↑n0 : Int)) ∧
 ∃ (n43 : Int),
 Reads Try.prog (Instr.loadAt (3 : Nat) (Value.pointer (some (p42.add (n40.toNat * (1 : Nat)))))) h41
 (Value.int IntKind.i64 n43) ∧
 ∃ (p44 : Addr),
 ((!(decide (n43 < (0 : Int)) || decide (n43 > (5 : Int)))) = true →
 A1 = some p44 ∧ (0 : Int) ≤ n40 ∧ n40 < (↑n1 : Int)) ∧
 ∃ (a45 : Option Addr),
 ∃ (k46 : Nat),
 ∃ (k47 : Nat),
 ((!(decide (n43 < (0 : Int)) || decide (n43 > (5 : Int)))) = true →
 Reads Try.prog (Instr.loadAt (22 : Nat) (Value.pointer (some (p44.add (n40.toNat * (1 : Nat)))))) h41
 (Value.slice a45 k46 k47)) ∧
 br (decide (n43 < (0 : Int)) || decide (n43 > (5 : Int)) || decide ((↑k46 : Int) > (512 : Int)))
 (R (Value.bool true) h41)
 (∃ (p48 : Addr),
 (A1 = some p48 ∧ (0 : Int) ≤ n40 ∧ n40 < (↑n1 : Int)) ∧
 ∃ (a49 : Option Addr),
 ∃ (k50 : Nat),
 ∃ (k51 : Nat),
 Reads Try.prog (Instr.loadAt (22 : Nat) (Value.pointer (some (p48.add (n40.toNat * (1 : Nat))))))
 h41 (Value.slice a49 k50 k51) ∧
 HC Try.prog (15 : Nat)
 (Array.mk
 [Value.pointer a5, Value.string (ByteArray.mk (Array.mk [(102 : UInt8)])),
 Value.int IntKind.i64 n43, Value.slice a49 k50 k51])
 h41 fun (v52 : Value) (h53 : Heap) =>
 ∃ (n54 : Int),
 v52 = Value.int IntKind.i64 n54 ∧
 ∃ (I55 : Heap → Prop),
 I55 h53 ∧
 ((0 : Int) ≤ n43 ∧ n43 < (↑(6 : Nat) : Int)) ∧
 ∃ (a56 : Option Addr),
 ∃ (k57 : Nat),
 ∃ (k58 : Nat),
 (∀ (h59 : Heap),
 I55 h59 →
 Reads Try.prog
 (Instr.loadAt (37 : Nat)
 (Value.pointer
 (some
 ((Addr.mk (Array.size h17) (0 : Nat) none).add
 (n43.toNat * (1 : Nat))))))
 h59 (Value.slice a56 k57 k58)) ∧
 ∃ (p60 : Addr),
 (A1 = some p60 ∧ (0 : Int) ≤ n40 ∧ n40 < (↑n1 : Int)) ∧
 ∃ (a61 : Option Addr),
 ∃ (k62 : Nat),
 ∃ (k63 : Nat),
 (∀ (h64 : Heap),
 I55 h64 →
 Reads Try.prog
 (Instr.loadAt (22 : Nat)
 (Value.pointer
 (some (p60.add (n40.toNat * (1 : Nat))))))
 h64 (Value.slice a61 k62 k63)) ∧
 ∃ (s65 : ByteArray),
 (∀ (h66 : Heap),
 I55 h66 →
 Reads Try.prog
 (convert (22 : Nat) (9 : Nat)
 (Value.slice a61 k62 k63))
 h66 (Value.string s65)) ∧
 ∃ (p67 : Addr),
 (A1 = some p67 ∧ (0 : Int) ≤ n40 ∧ n40 < (↑n1 : Int)) ∧
 ∃ (a68 : Option Addr),
 ∃ (k69 : Nat),
 ∃ (k70 : Nat),
 Reads Try.prog
 (Instr.loadAt (22 : Nat)
 (Value.pointer
 (some (p67.add (n40.toNat * (1 : Nat))))))
 h53 (Value.slice a68 k69 k70) ∧
 SVC Try.prog
 (Instr.makeSlice (22 : Nat)
 (Value.int IntKind.i64
 (IntKind.i64.wrap
 ((512 : Int) - (↑k69 : Int))))
 (Value.int IntKind.i64
 (IntKind.i64.wrap
 ((512 : Int) - (↑k69 : Int)))))
 h53 fun (v71 : Value) (h72 : Heap) =>
 ∃ (a73 : Option Addr),
 ∃ (k74 : Nat),
 ∃ (k75 : Nat),
 v71 = Value.slice a73 k74 k75 ∧
 I55 h72 ∧
 ∃ (s76 : ByteArray),
 Reads Try.prog
 (convert (22 : Nat) (9 : Nat)
 (Value.slice a73 k74 k75))
 h72 (Value.string s76) ∧
 (↑(s65.size + s76.size) : Int) ≤
 IntKind.i64.max ∧
 SVC Try.prog
 (Instr.buildSlice (37 : Nat)
 (1 : Nat)
 (Array.mk
 [((0 : Nat),
 Value.string
 (s65 ++ s76))]))
 h72
 fun (v77 : Value)
 (h78 : Heap) =>
 ∃ (a79 : Option Addr),
 ∃ (k80 : Nat),
 ∃ (k81 : Nat),
 v77 =
 Value.slice a79
 k80 k81 ∧
 I55 h78 ∧
 SVC Try.prog
 (Builtin.append_
 (Array.mk
 [(37 : Nat),
 (37 :
 Nat)])
 (37 : Nat)
 (Array.mk
 [Value.slice
 a56 k57
 k58,
 Value.slice
 a79 k80
 k81]))
 h78
 fun
 (v82 : Value)
 (h83 :
 Heap) =>
 ∃ (a84 :
 Option Addr),
 ∃ (k85 : Nat),
 ∃ (k86 :
 Nat),
 v82 =
 Value.slice
 a84
 k85
 k86 ∧
 ((0 :
 Int) ≤
 n43 ∧
 n43 <
 (↑(6 :
 Nat) :
 Int)) ∧
 SVC
 Try.prog
 (Instr.storeAt
 (37 :
 Nat)
 (Value.pointer
 (some
 ((Addr.mk
 (Array.size
 h17)
 (0 :
 Nat)
 none).add
 (n43.toNat *
 (1 :
 Nat)))))
 (Value.slice
 a84
 k85
 k86))
 h83
 fun
 (x87 :
 Unit)
 (h88 :
 Heap) =>
 ∃
 (I89
 :
 Int →
 Heap →
 Prop),
 (∃
 (p90
 :
 Addr),
 ((n54 ==
 (0 :
 Int)) =
 true →
 A2 =
 some
 p90 ∧
 (0 :
 Int) ≤
 n40 ∧
 n40 <
 (↑n2 :
 Int)) ∧
 ∃
 (b91
 :
 Bool),
 ((n54 ==
 (0 :
 Int)) =
 true →
 Reads
 Try.prog
 (Instr.loadAt
 (4 :
 Nat)
 (Value.pointer
 (some
 (p90.add
 (n40.toNat *
 (1 :
 Nat))))))
 h88
 (Value.bool
 b91)) ∧
 br
 (n54 ==
 (0 :
 Int) &&
 b91)
 (HC
 Try.prog
 (17 :
 Nat)
 (Array.mk
 [Value.pointer
 a5,
 Value.string
 (ByteArray.mk
 (Array.mk
 [(102 :
 UInt8)]))])
 h88
 fun
 (v92 :
 Value)
 (h93 :
 Heap) =>
 ∃
 (n94
 :
 Int),
 v92 =
 Value.int
 IntKind.i64
 n94 ∧
 br
 (n94 ==
 (0 :
 Int))
 (∃
 (I95
 :
 Int →
 Heap →
 Prop),
 ∃
 (I96
 :
 Int →
 Heap →
 Nat),
 I95
 (0 :
 Int)
 h93 ∧
 ∀
 (n97 :
 Int)
 (h98 :
 Heap),
 I95
 n97
 h98 →
 br
 (decide
 (n97 <
 (6 :
 Int)))
 (((0 :
 Int) ≤
 n97 ∧
 n97 <
 (↑(6 :
 Nat) :
 Int)) ∧
 ∃
 (a99
 :
 Option
 Addr),
 ∃
 (k100
 :
 Nat),
 ∃
 (k101
 :
 Nat),
 Reads
 Try.prog
 (Instr.loadAt
 (37 :
 Nat)
 (Value.pointer
 (some
 ((Addr.mk
 (Array.size
 h17)
 (0 :
 Nat)
 none).add
 (n97.toNat *
 (1 :
 Nat))))))
 h98
 (Value.slice
 a99
 k100
 k101) ∧
 ((0 :
 Int) ≤
 n97 ∧
 n97 <
 (↑(6 :
 Nat) :
 Int)) ∧
 ∃
 (a102
 :
 Option
 Addr),
 ∃
 (k103
 :
 Nat),
 ∃
 (k104
 :
 Nat),
 Reads
 Try.prog
 (Instr.loadAt
 (37 :
 Nat)
 (Value.pointer
 (some
 ((Addr.mk
 (Array.size
 h17)
 (0 :
 Nat)
 none).add
 (n97.toNat *
 (1 :
 Nat))))))
 h98
 (Value.slice
 a102
 k103
 k104) ∧
 ((0 :
 Int) ≤
 IntKind.i64.wrap
 ((↑k103 :
 Int) -
 (1 :
 Int)) ∧
 IntKind.i64.wrap
 ((↑k103 :
 Int) -
 (1 :
 Int)) ≤
 (↑k100 :
 Int) ∧
 (↑k100 :
 Int) ≤
 (↑k101 :
 Int) ∧
 (↑k101 :
 Int) ≤
 (↑k101 :
 Int)) ∧
 ((0 :
 Int) ≤
 n97 ∧
 n97 <
 (↑(6 :
 Nat) :
 Int)) ∧
 SVC
 Try.prog
 (Instr.storeAt
 (37 :
 Nat)
 (Value.pointer
 (some
 ((Addr.mk
 (Array.size
 h17)
 (0 :
 Nat)
 none).add
 (n97.toNat *
 (1 :
 Nat)))))
 (Value.slice
 (subA
 a99
 (IntKind.i64.wrap
 ((↑k103 :
 Int) -
 (1 :
 Int))).toNat
 k101
 (1 :
 Nat))
 (k100 -
 (IntKind.i64.wrap
 ((↑k103 :
 Int) -
 (1 :
 Int))).toNat)
 (k101 -
 (IntKind.i64.wrap
 ((↑k103 :
 Int) -
 (1 :
 Int))).toNat)))
 h98
 fun
 (x105 :
 Unit)
 (h106 :
 Heap) =>
 I95
 (IntKind.i64.wrap
 (n97 +
 (1 :
 Int)))
 h106 ∧
 I96
 (IntKind.i64.wrap
 (n97 +
 (1 :
 Int)))
 h106 <
 I96
 n97
 h98)
 (I89
 n94
 h98))
 (I89
 n94
 h93))
 (I89
 n54
 h88)) ∧
 ∀
 (n107 :
 Int)
 (h108 :
 Heap),
 I89
 n107
 h108 →
 br
 (n107 !=
 (0 :
 Int))
 (I36
 b39
 h108)
 (I37
 b39
 (IntKind.i64.wrap
 (n40 +
 (1 :
 Int)))
 h108 ∧
 I38
 b39
 (IntKind.i64.wrap
 (n40 +
 (1 :
 Int)))
 h108 <
 I38
 b39
 n40
 h41)))
 (I36 b39 h41)) ∧
 ∀ (b109 : Bool) (h110 : Heap),
 I36 b109 h110 →
 HC Try.prog (19 : Nat) (Array.mk [Value.pointer a5, Value.int IntKind.u64 keep]) h110 fun (v111 : Value) (h112 : Heap) =>
 v111 = Value.tuple (Array.mk []) ∧
 HC Try.prog (20 : Nat) (Array.mk [Value.pointer a5]) h112 fun (v113 : Value) (h114 : Heap) =>
 v113 = Value.tuple (Array.mk []) ∧
 ∃ (I115 : Bool → Int → Heap → Prop),
 ∃ (I116 : Bool → Int → Heap → Nat),
 I115 b109 (0 : Int) h114 ∧
 ∀ (b117 : Bool) (n118 : Int) (h119 : Heap),
 I115 b117 n118 h119 →
 br (decide (n118 < (6 : Int)))
 (HC Try.prog (16 : Nat)
 (Array.mk [Value.pointer a5, Value.string (ByteArray.mk (Array.mk [(102 : UInt8)])), Value.int IntKind.i64 n118])
 h119 fun (v120 : Value) (h121 : Heap) =>
 ∃ (a122 : Option Addr),
 ∃ (k123 : Nat),
 ∃ (k124 : Nat),
 ∃ (n125 : Int),
 v120 = Value.tuple (Array.mk [Value.slice a122 k123 k124, Value.int IntKind.i64 n125]) ∧
 ((0 : Int) ≤ n118 ∧ n118 < (↑(6 : Nat) : Int)) ∧
 ∃ (a126 : Option Addr),
 ∃ (k127 : Nat),
 ∃ (k128 : Nat),
 Reads Try.prog
 (Instr.loadAt (37 : Nat)
 (Value.pointer
 (some ((Addr.mk (Array.size h17) (0 : Nat) none).add (n118.toNat * (1 : Nat))))))
 h121 (Value.slice a126 k127 k128) ∧
 ∃ (I129 : Bool → Int → Heap → Prop),
 ∃ (I130 : Bool → Int → Heap → Nat),
 I129 false (0 : Int) h121 ∧
 ∀ (b131 : Bool) (n132 : Int) (h133 : Heap),
 I129 b131 n132 h133 →
 br (decide (n132 < (↑k127 : Int)))
 (∃ (p134 : Addr),
 (a126 = some p134 ∧ (0 : Int) ≤ n132 ∧ n132 < (↑k127 : Int)) ∧
 ∃ (s135 : ByteArray),
 Reads Try.prog
 (Instr.loadAt (9 : Nat)
 (Value.pointer (some (p134.add (n132.toNat * (1 : Nat))))))
 h133 (Value.string s135) ∧
 ∃ (s136 : ByteArray),
 ((!b131) = true →
 Reads Try.prog
 (convert (22 : Nat) (9 : Nat) (Value.slice a122 k123 k124)) h133
 (Value.string s136)) ∧
 I129 (b131 || s136.toList == s135.toList)
 (IntKind.i64.wrap (n132 + (1 : Int))) h133 ∧
 I130 (b131 || s136.toList == s135.toList)
 (IntKind.i64.wrap (n132 + (1 : Int))) h133 <
 I130 b131 n132 h133)
 (br (n125 != (0 : Int) || !b131) (R (Value.bool false) h133)
 (I115 b117 (IntKind.i64.wrap (n118 + (1 : Int))) h133 ∧
 I116 b117 (IntKind.i64.wrap (n118 + (1 : Int))) h133 < I116 b117 n118 h119)))
 (R (Value.bool true) h119)))))) := by kernel_rfl
end Go.Proofs.Ytembbemljejjbaa
