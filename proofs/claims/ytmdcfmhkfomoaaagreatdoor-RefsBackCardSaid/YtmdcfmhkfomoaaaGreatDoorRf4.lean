/-
  What a call of each function comes to, as the symbolic run tells it: by the kernel's own reckoning. Conditions: none.
-/
import Derived.Test.YtmdcfmhkfomoaaaGreatDoorVcE
import Derived.Test.YtmdcfmhkfomoaaaGreatDoorProg
import Derived.KernelRfl
set_option linter.unusedVariables false
set_option maxRecDepth 100000
namespace Go.Proofs.YtmdcfmhkfomoaaaGreatDoor
open Go Go.Vc Go.Proofs

theorem vc18Reads (A : Option Addr) (n c : Nat) (s : ByteArray) (x : Array Value) (h : Heap) (R : Value → Heap → Prop) :
    vcF Tryz.prog Tryz.f6 138 [] [] [.slice A n c, .string s, .agg x] h R =
(HC Tryz.prog (8 : Nat) (Array.mk []) (Array.push h (Obj.cells x (24 : Nat))) fun (v0 : Value) (h1 : Heap) =>
 ∃ (b2 : Bool),
 v0 = Value.bool b2 ∧
 br (!b2) (R (Value.bool false) h1)
 (HC Tryz.prog (20 : Nat) (Array.mk [Value.slice A n c]) h1 fun (v3 : Value) (h4 : Heap) =>
 ∃ (b5 : Bool),
 v3 = Value.bool b5 ∧
 br (b5 || decide ((↑s.size : Int) > (1024 : Int))) (R (Value.bool true) h4)
 (HC Tryz.prog (17 : Nat) (Array.mk []) h4 fun (v6 : Value) (h7 : Heap) =>
 ∃ (a8 : Option Addr),
 v6 = Value.pointer a8 ∧
 HC Tryz.prog (18 : Nat) (Array.mk [Value.pointer a8, Value.slice A n c]) h7 fun (v9 : Value) (h10 : Heap) =>
 ∃ (n11 : Int),
 v9 = Value.int IntKind.i64 n11 ∧
 br (n11 != (0 : Int)) (R (Value.bool false) h10)
 (HC Tryz.prog (21 : Nat) (Array.mk [Value.slice none (0 : Nat) (0 : Nat), Value.slice A n c]) h10 fun (v12 : Value) (h13 : Heap) =>
 ∃ (a14 : Option Addr),
 ∃ (k15 : Nat),
 ∃ (k16 : Nat),
 v12 = Value.slice a14 k15 k16 ∧
 HC Tryz.prog (22 : Nat) (Array.mk [Value.pointer a8, Value.string s]) h13 fun (v17 : Value) (h18 : Heap) =>
 ∃ (h19 : Array Value),
 ∃ (n20 : Int),
 v17 = Value.tuple (Array.mk [Value.agg h19, Value.int IntKind.i64 n20]) ∧
 ∃ (h21 : Array Value),
 IsZ Tryz.prog (24 : Nat) h21 ∧
 SVC Tryz.prog (Instr.storeAt (24 : Nat) (Value.pointer (some (Addr.mk (Array.size h18) (0 : Nat) none))) (Value.agg h19))
 (Array.push h18 (Obj.cells h21 (24 : Nat))) fun (x22 : Unit) (h23 : Heap) =>
 HC Tryz.prog (23 : Nat) (Array.mk [Value.slice a14 k15 k16, Value.string s]) h23 fun (v24 : Value) (h25 : Heap) =>
 ∃ (h26 : Array Value),
 ∃ (n27 : Int),
 v24 = Value.tuple (Array.mk [Value.agg h26, Value.int IntKind.i64 n27]) ∧
 ∃ (h28 : Array Value),
 IsZ Tryz.prog (24 : Nat) h28 ∧
 SVC Tryz.prog (Instr.storeAt (24 : Nat) (Value.pointer (some (Addr.mk (Array.size h25) (0 : Nat) none))) (Value.agg h26))
 (Array.push h25 (Obj.cells h28 (24 : Nat))) fun (x29 : Unit) (h30 : Heap) =>
 ∃ (h31 : Array Value),
 Reads Tryz.prog (Instr.loadAt (24 : Nat) (Value.pointer (some (Addr.mk (Array.size h18) (0 : Nat) none)))) h30 (Value.agg h31) ∧
 ∃ (h32 : Array Value),
 Reads Tryz.prog (Instr.loadAt (24 : Nat) (Value.pointer (some (Addr.mk (Array.size h25) (0 : Nat) none)))) h30
 (Value.agg h32) ∧
 ∃ (b33 : Bool),
 Reads Tryz.prog
 (eqSem BinOp.neq (24 : Nat) (Operand.tmp (51 : Nat)) (Operand.tmp (52 : Nat)) (Value.agg h31) (Value.agg h32)) h30
 (Value.bool b33) ∧
 br (b33 || n20 != n27) (R (Value.bool false) h30)
 (HC Tryz.prog (19 : Nat) (Array.mk [Value.pointer a8]) h30 fun (v34 : Value) (h35 : Heap) =>
 ∃ (a36 : Option Addr),
 ∃ (k37 : Nat),
 ∃ (k38 : Nat),
 ∃ (n39 : Int),
 v34 = Value.tuple (Array.mk [Value.slice a36 k37 k38, Value.int IntKind.i64 n39]) ∧
 HC Tryz.prog (24 : Nat) (Array.mk [Value.slice a14 k15 k16]) h35 fun (v40 : Value) (h41 : Heap) =>
 ∃ (a42 : Option Addr),
 ∃ (k43 : Nat),
 ∃ (k44 : Nat),
 ∃ (n45 : Int),
 v40 = Value.tuple (Array.mk [Value.slice a42 k43 k44, Value.int IntKind.i64 n45]) ∧
 HC Tryz.prog (25 : Nat) (Array.mk [Value.slice a36 k37 k38, Value.slice a42 k43 k44]) h41
 fun (v46 : Value) (h47 : Heap) =>
 ∃ (b48 : Bool),
 v46 = Value.bool b48 ∧
 br (!b48 || n39 != n45) (R (Value.bool false) h47)
 (∃ (I49 : Heap → Prop),
 I49 h47 ∧
 HC Tryz.prog (26 : Nat) (Array.mk [Value.pointer a8]) h47
 fun (v50 : Value) (h51 : Heap) =>
 ∃ (a52 : Option Addr),
 v50 = Value.agg (Array.mk [Value.pointer a52]) ∧
 I49 h51 ∧
 ∃ (h53 : Array Value),
 (∀ (h54 : Heap),
 I49 h54 →
 Reads Tryz.prog
 (Instr.loadAt (24 : Nat)
 (Value.pointer
 (some (Addr.mk (Array.size h) (0 : Nat) none))))
 h54 (Value.agg h53)) ∧
 HC Tryz.prog (27 : Nat)
 (Array.mk [Value.agg (Array.mk [Value.pointer a52]), Value.agg h53])
 h51 fun (v55 : Value) (h56 : Heap) =>
 ∃ (s57 : ByteArray),
 ∃ (n58 : Int),
 v55 =
 Value.tuple
 (Array.mk [Value.string s57, Value.int IntKind.i64 n58]) ∧
 ∃ (h59 : Array Value),
 Reads Tryz.prog
 (Instr.loadAt (24 : Nat)
 (Value.pointer
 (some (Addr.mk (Array.size h) (0 : Nat) none))))
 h56 (Value.agg h59) ∧
 HC Tryz.prog (11 : Nat) (Array.mk [Value.agg h59]) h56
 fun (v60 : Value) (h61 : Heap) =>
 ∃ (s62 : ByteArray),
 v60 = Value.string s62 ∧
 (↑((1 : Nat) + s62.size) : Int) ≤ IntKind.i64.max ∧
 HC Tryz.prog (28 : Nat)
 (Array.mk
 [Value.slice a14 k15 k16,
 Value.string
 (ByteArray.mk
 (Array.mk [(111 : UInt8)]) ++
 s62)])
 h61 fun (v63 : Value) (h64 : Heap) =>
 ∃ (n65 : Int),
 v63 = Value.int IntKind.i64 n65 ∧
 ∃ (h66 : Array Value),
 Reads Tryz.prog
 (Instr.loadAt (24 : Nat)
 (Value.pointer
 (some
 (Addr.mk (Array.size h)
 (0 : Nat) none))))
 h64 (Value.agg h66) ∧
 HC Tryz.prog (11 : Nat)
 (Array.mk [Value.agg h66]) h64
 fun (v67 : Value) (h68 : Heap) =>
 ∃ (s69 : ByteArray),
 v67 = Value.string s69 ∧
 br
 (s69.toList == [] ||
 decide (n65 < (0 : Int)))
 (br
 (n58 != (5 : Int) ||
 !s57.toList == [])
 (R (Value.bool false) h68)
 (HC Tryz.prog (22 : Nat)
 (Array.mk
 [Value.pointer none,
 Value.string
 (ByteArray.mk
 (Array.mk
 [(109 : UInt8),
 (97 : UInt8),
 (105 : UInt8),
 (110 :
 UInt8)]))])
 h68
 fun (v70 : Value)
 (h71 : Heap) =>
 ∃ (h72 : Array Value),
 ∃ (n73 : Int),
 v70 =
 Value.tuple
 (Array.mk
 [Value.agg h72,
 Value.int
 IntKind.i64
 n73]) ∧
 ∃ (h74 : Array Value),
 IsZ Tryz.prog
 (24 : Nat) h74 ∧
 SVC Tryz.prog
 (Instr.storeAt
 (24 : Nat)
 (Value.pointer
 (some
 (Addr.mk
 (Array.size
 h71)
 (0 :
 Nat)
 none)))
 (Value.agg
 h72))
 (Array.push h71
 (Obj.cells h74
 (24 : Nat)))
 fun (x75 : Unit)
 (h76 :
 Heap) =>
 HC Tryz.prog
 (19 : Nat)
 (Array.mk
 [Value.pointer
 none])
 h76
 fun
 (v77 :
 Value)
 (h78 :
 Heap) =>
 ∃ (a79 :
 Option
 Addr),
 ∃ (k80 :
 Nat),
 ∃ (k81 :
 Nat),
 ∃ (n82 :
 Int),
 v77 =
 Value.tuple
 (Array.mk
 [Value.slice
 a79
 k80
 k81,
 Value.int
 IntKind.i64
 n82]) ∧
 HC
 Tryz.prog
 (26 :
 Nat)
 (Array.mk
 [Value.pointer
 none])
 h78
 fun
 (v83 :
 Value)
 (h84 :
 Heap) =>
 ∃
 (a85
 :
 Option
 Addr),
 v83 =
 Value.agg
 (Array.mk
 [Value.pointer
 a85]) ∧
 HC
 Tryz.prog
 (29 :
 Nat)
 (Array.mk
 [Value.int
 IntKind.u8
 (1 :
 Int),
 Value.string
 (ByteArray.mk
 (Array.mk
 []))])
 h84
 fun
 (v86 :
 Value)
 (h87 :
 Heap) =>
 ∃
 (h88
 :
 Array
 Value),
 v86 =
 Value.agg
 h88 ∧
 HC
 Tryz.prog
 (27 :
 Nat)
 (Array.mk
 [Value.agg
 (Array.mk
 [Value.pointer
 a85]),
 Value.agg
 h88])
 h87
 fun
 (v89 :
 Value)
 (h90 :
 Heap) =>
 ∃
 (s91
 :
 ByteArray),
 ∃
 (n92
 :
 Int),
 v89 =
 Value.tuple
 (Array.mk
 [Value.string
 s91,
 Value.int
 IntKind.i64
 n92]) ∧
 R
 (Value.bool
 (n73 ==
 (2 :
 Int) &&
 n82 ==
 (2 :
 Int) &&
 n92 ==
 (2 :
 Int)))
 h90))
 (∃ (p93 : Addr),
 ((!n58 != (0 : Int)) = true →
 a14 = some p93 ∧
 (0 : Int) ≤ n65 ∧
 n65 < (↑k15 : Int)) ∧
 ∃ (s94 : ByteArray),
 ((!n58 != (0 : Int)) =
 true →
 Reads Tryz.prog
 (Instr.loadAt
 (9 : Nat)
 (Value.pointer
 (some
 ((p93.add
 (n65.toNat *
 (2 :
 Nat))).add
 (1 :
 Nat)))))
 h68
 (Value.string
 s94)) ∧
 br
 (n58 != (0 : Int) ||
 !s57.toList ==
 s94.toList)
 (R (Value.bool false)
 h68)
 (HC Tryz.prog
 (22 : Nat)
 (Array.mk
 [Value.pointer
 none,
 Value.string
 (ByteArray.mk
 (Array.mk
 [(109 :
 UInt8),
 (97 :
 UInt8),
 (105 :
 UInt8),
 (110 :
 UInt8)]))])
 h68
 fun (v95 : Value)
 (h96 : Heap) =>
 ∃ (h97 :
 Array Value),
 ∃ (n98 : Int),
 v95 =
 Value.tuple
 (Array.mk
 [Value.agg
 h97,
 Value.int
 IntKind.i64
 n98]) ∧
 ∃ (h99 :
 Array
 Value),
 IsZ
 Tryz.prog
 (24 :
 Nat)
 h99 ∧
 SVC
 Tryz.prog
 (Instr.storeAt
 (24 :
 Nat)
 (Value.pointer
 (some
 (Addr.mk
 (Array.size
 h96)
 (0 :
 Nat)
 none)))
 (Value.agg
 h97))
 (Array.push
 h96
 (Obj.cells
 h99
 (24 :
 Nat)))
 fun
 (x100 :
 Unit)
 (h101 :
 Heap) =>
 HC
 Tryz.prog
 (19 :
 Nat)
 (Array.mk
 [Value.pointer
 none])
 h101
 fun
 (v102 :
 Value)
 (h103 :
 Heap) =>
 ∃
 (a104
 :
 Option
 Addr),
 ∃
 (k105
 :
 Nat),
 ∃
 (k106
 :
 Nat),
 ∃
 (n107
 :
 Int),
 v102 =
 Value.tuple
 (Array.mk
 [Value.slice
 a104
 k105
 k106,
 Value.int
 IntKind.i64
 n107]) ∧
 HC
 Tryz.prog
 (26 :
 Nat)
 (Array.mk
 [Value.pointer
 none])
 h103
 fun
 (v108 :
 Value)
 (h109 :
 Heap) =>
 ∃
 (a110
 :
 Option
 Addr),
 v108 =
 Value.agg
 (Array.mk
 [Value.pointer
 a110]) ∧
 HC
 Tryz.prog
 (29 :
 Nat)
 (Array.mk
 [Value.int
 IntKind.u8
 (1 :
 Int),
 Value.string
 (ByteArray.mk
 (Array.mk
 []))])
 h109
 fun
 (v111 :
 Value)
 (h112 :
 Heap) =>
 ∃
 (h113
 :
 Array
 Value),
 v111 =
 Value.agg
 h113 ∧
 HC
 Tryz.prog
 (27 :
 Nat)
 (Array.mk
 [Value.agg
 (Array.mk
 [Value.pointer
 a110]),
 Value.agg
 h113])
 h112
 fun
 (v114 :
 Value)
 (h115 :
 Heap) =>
 ∃
 (s116
 :
 ByteArray),
 ∃
 (n117
 :
 Int),
 v114 =
 Value.tuple
 (Array.mk
 [Value.string
 s116,
 Value.int
 IntKind.i64
 n117]) ∧
 R
 (Value.bool
 (n98 ==
 (2 :
 Int) &&
 n107 ==
 (2 :
 Int) &&
 n117 ==
 (2 :
 Int)))
 h115)))))))) := by kernel_rfl

theorem vc18Back (A : Option Addr) (n c : Nat) (B : Option Addr) (m d : Nat) (s : ByteArray) (p : Int) (h : Heap) (R : Value → Heap → Prop) :
    vcF Tryz.prog Tryz.f7 194 [] [] [.slice A n c, .slice B m d, .string s, .int .i64 p] h R =
(HC Tryz.prog (8 : Nat) (Array.mk []) h fun (v0 : Value) (h1 : Heap) =>
 ∃ (b2 : Bool),
 v0 = Value.bool b2 ∧
 br (!b2) (R (Value.bool false) h1)
 (br (decide ((↑n : Int) > (32 : Int)) || decide ((↑m : Int) < (↑n : Int)) || decide ((↑s.size : Int) > (160 : Int))) (R (Value.bool true) h1)
 (HC Tryz.prog (17 : Nat) (Array.mk []) h1 fun (v3 : Value) (h4 : Heap) =>
 ∃ (a5 : Option Addr),
 v3 = Value.pointer a5 ∧
 ∃ (I6 : Bool → Option Addr → Nat → Nat → Int → Heap → Prop),
 ∃ (I7 : Bool → Option Addr → Nat → Nat → Int → Heap → Nat),
 I6 false none (0 : Nat) (0 : Nat) (0 : Int) h4 ∧
 ∀ (b8 : Bool) (a9 : Option Addr) (k10 k11 : Nat) (n12 : Int) (h13 : Heap),
 I6 b8 a9 k10 k11 n12 h13 →
 br (decide (n12 < (↑n : Int)))
 (∃ (p14 : Addr),
 (A = some p14 ∧ (0 : Int) ≤ n12 ∧ n12 < (↑n : Int)) ∧
 ∃ (s15 : ByteArray),
 Reads Tryz.prog (Instr.loadAt (9 : Nat) (Value.pointer (some (p14.add (n12.toNat * (1 : Nat)))))) h13 (Value.string s15) ∧
 ∃ (p16 : Addr),
 (B = some p16 ∧ (0 : Int) ≤ n12 ∧ n12 < (↑m : Int)) ∧
 ∃ (h17 : Array Value),
 Reads Tryz.prog (Instr.loadAt (24 : Nat) (Value.pointer (some (p16.add (n12.toNat * (33 : Nat)))))) h13 (Value.agg h17) ∧
 HC Tryz.prog (11 : Nat) (Array.mk [Value.agg h17]) h13 fun (v18 : Value) (h19 : Heap) =>
 ∃ (s20 : ByteArray),
 v18 = Value.string s20 ∧
 HC Tryz.prog (13 : Nat) (Array.mk [Value.string s15]) h19 fun (v21 : Value) (h22 : Heap) =>
 ∃ (b23 : Bool),
 v21 = Value.bool b23 ∧
 br (!b23 || s20.toList == []) (R (Value.bool true) h22)
 (∃ (I24 : Heap → Prop),
 I24 h22 ∧
 ∃ (p25 : Addr),
 (B = some p25 ∧ (0 : Int) ≤ n12 ∧ n12 < (↑m : Int)) ∧
 ∃ (h26 : Array Value),
 Reads Tryz.prog (Instr.loadAt (24 : Nat) (Value.pointer (some (p25.add (n12.toNat * (33 : Nat)))))) h22 (Value.agg h26) ∧
 HC Tryz.prog (14 : Nat) (Array.mk [Value.string s15, Value.agg h26]) h22 fun (v27 : Value) (h28 : Heap) =>
 ∃ (s29 : ByteArray),
 ∃ (s30 : ByteArray),
 ∃ (b31 : Bool),
 v27 = Value.agg (Array.mk [Value.string s29, Value.string s30, Value.bool b31]) ∧
 I24 h28 ∧
 ∃ (p32 : Addr),
 (B = some p32 ∧ (0 : Int) ≤ n12 ∧ n12 < (↑m : Int)) ∧
 ∃ (h33 : Array Value),
 (∀ (h34 : Heap),
 I24 h34 →
 Reads Tryz.prog (Instr.loadAt (24 : Nat) (Value.pointer (some (p32.add (n12.toNat * (33 : Nat)))))) h34
 (Value.agg h33)) ∧
 ∃ (h35 : Array Value),
 Blt Tryz.prog (36 : Nat) [((0 : Nat), Value.agg h33), ((1 : Nat), Value.string s)] h35 ∧
 HC Tryz.prog (16 : Nat) (Array.mk [Value.agg h35]) h28 fun (v36 : Value) (h37 : Heap) =>
 ∃ (s38 : ByteArray),
 ∃ (s39 : ByteArray),
 ∃ (b40 : Bool),
 v36 = Value.agg (Array.mk [Value.string s38, Value.string s39, Value.bool b40]) ∧
 SVC Tryz.prog
 (Instr.buildSlice (49 : Nat) (2 : Nat)
 (Array.mk
 [((0 : Nat), Value.agg (Array.mk [Value.string s29, Value.string s30, Value.bool b31])),
 ((1 : Nat),
 Value.agg (Array.mk [Value.string s38, Value.string s39, Value.bool b40]))]))
 h37 fun (v41 : Value) (h42 : Heap) =>
 ∃ (a43 : Option Addr),
 ∃ (k44 : Nat),
 ∃ (k45 : Nat),
 v41 = Value.slice a43 k44 k45 ∧
 HC Tryz.prog (18 : Nat) (Array.mk [Value.pointer a5, Value.slice a43 k44 k45]) h42
 fun (v46 : Value) (h47 : Heap) =>
 ∃ (n48 : Int),
 v46 = Value.int IntKind.i64 n48 ∧
 br (n48 != (0 : Int)) (R (Value.bool false) h47)
 (HC Tryz.prog (30 : Nat)
 (Array.mk
 [Value.slice a9 k10 k11,
 Value.agg
 (Array.mk [Value.string s15, Value.string s20, Value.bool false])])
 h47 fun (v49 : Value) (h50 : Heap) =>
 ∃ (a51 : Option Addr),
 ∃ (k52 : Nat),
 ∃ (k53 : Nat),
 v49 = Value.slice a51 k52 k53 ∧
 HC Tryz.prog (22 : Nat)
 (Array.mk [Value.pointer a5, Value.string s15]) h50
 fun (v54 : Value) (h55 : Heap) =>
 ∃ (h56 : Array Value),
 ∃ (n57 : Int),
 v54 =
 Value.tuple
 (Array.mk [Value.agg h56, Value.int IntKind.i64 n57]) ∧
 ∃ (h58 : Array Value),
 IsZ Tryz.prog (24 : Nat) h58 ∧
 SVC Tryz.prog
 (Instr.storeAt (24 : Nat)
 (Value.pointer
 (some (Addr.mk (Array.size h55) (0 : Nat) none)))
 (Value.agg h56))
 (Array.push h55 (Obj.cells h58 (24 : Nat)))
 fun (x59 : Unit) (h60 : Heap) =>
 ∃ (I61 : Heap → Prop),
 I61 h60 ∧
 HC Tryz.prog (26 : Nat)
 (Array.mk [Value.pointer a5]) h60
 fun (v62 : Value) (h63 : Heap) =>
 ∃ (a64 : Option Addr),
 v62 =
 Value.agg (Array.mk [Value.pointer a64]) ∧
 I61 h63 ∧
 ∃ (p65 : Addr),
 (B = some p65 ∧
 (0 : Int) ≤ n12 ∧
 n12 < (↑m : Int)) ∧
 ∃ (h66 : Array Value),
 (∀ (h67 : Heap),
 I61 h67 →
 Reads Tryz.prog
 (Instr.loadAt (24 : Nat)
 (Value.pointer
 (some
 (p65.add
 (n12.toNat *
 (33 : Nat))))))
 h67 (Value.agg h66)) ∧
 HC Tryz.prog (27 : Nat)
 (Array.mk
 [Value.agg
 (Array.mk
 [Value.pointer a64]),
 Value.agg h66])
 h63
 fun (v68 : Value)
 (h69 : Heap) =>
 ∃ (s70 : ByteArray),
 ∃ (n71 : Int),
 v68 =
 Value.tuple
 (Array.mk
 [Value.string s70,
 Value.int
 IntKind.i64
 n71]) ∧
 ∃ (h72 : Array Value),
 ((!n57 != (0 : Int)) =
 true →
 Reads Tryz.prog
 (Instr.loadAt
 (24 : Nat)
 (Value.pointer
 (some
 (Addr.mk
 (Array.size
 h55)
 (0 : Nat)
 none))))
 h69
 (Value.agg h72)) ∧
 ∃ (p73 : Addr),
 ((!n57 !=
 (0 :
 Int)) =
 true →
 B = some p73 ∧
 (0 : Int) ≤
 n12 ∧
 n12 <
 (↑m :
 Int)) ∧
 ∃ (h74 :
 Array Value),
 ((!n57 !=
 (0 :
 Int)) =
 true →
 Reads
 Tryz.prog
 (Instr.loadAt
 (24 :
 Nat)
 (Value.pointer
 (some
 (p73.add
 (n12.toNat *
 (33 :
 Nat))))))
 h69
 (Value.agg
 h74)) ∧
 ∃ (b75 :
 Bool),
 ((!n57 !=
 (0 :
 Int)) =
 true →
 Reads
 Tryz.prog
 (eqSem
 BinOp.neq
 (24 :
 Nat)
 (Operand.tmp
 (102 :
 Nat))
 (Operand.tmp
 (106 :
 Nat))
 (Value.agg
 h72)
 (Value.agg
 h74))
 h69
 (Value.bool
 b75)) ∧
 br
 (n57 !=
 (0 :
 Int) ||
 b75 ||
 n71 !=
 (0 :
 Int) ||
 !s70.toList ==
 s.toList)
 (R
 (Value.bool
 false)
 h69)
 (I6 b8
 a51
 k52
 k53
 (IntKind.i64.wrap
 (n12 +
 (1 :
 Int)))
 h69 ∧
 I7 b8
 a51
 k52
 k53
 (IntKind.i64.wrap
 (n12 +
 (1 :
 Int)))
 h69 <
 I7
 b8
 a9
 k10
 k11
 n12
 h13))))
 (br (decide (p ≥ (0 : Int)) && decide (p < (↑n : Int)))
 (∃ (p76 : Addr),
 (A = some p76 ∧ (0 : Int) ≤ p ∧ p < (↑n : Int)) ∧
 ∃ (s77 : ByteArray),
 Reads Tryz.prog (Instr.loadAt (9 : Nat) (Value.pointer (some (p76.add (p.toNat * (1 : Nat)))))) h13 (Value.string s77) ∧
 HC Tryz.prog (15 : Nat) (Array.mk [Value.string s77]) h13 fun (v78 : Value) (h79 : Heap) =>
 ∃ (s80 : ByteArray),
 ∃ (s81 : ByteArray),
 ∃ (b82 : Bool),
 v78 = Value.agg (Array.mk [Value.string s80, Value.string s81, Value.bool b82]) ∧
 SVC Tryz.prog
 (Instr.buildSlice (49 : Nat) (1 : Nat) (Array.mk [((0 : Nat), Value.agg (Array.mk [Value.string s80, Value.string s81, Value.bool b82]))])) h79
 fun (v83 : Value) (h84 : Heap) =>
 ∃ (a85 : Option Addr),
 ∃ (k86 : Nat),
 ∃ (k87 : Nat),
 v83 = Value.slice a85 k86 k87 ∧
 HC Tryz.prog (18 : Nat) (Array.mk [Value.pointer a5, Value.slice a85 k86 k87]) h84 fun (v88 : Value) (h89 : Heap) =>
 ∃ (n90 : Int),
 v88 = Value.int IntKind.i64 n90 ∧
 ∃ (p91 : Addr),
 (A = some p91 ∧ (0 : Int) ≤ p ∧ p < (↑n : Int)) ∧
 ∃ (s92 : ByteArray),
 Reads Tryz.prog (Instr.loadAt (9 : Nat) (Value.pointer (some (p91.add (p.toNat * (1 : Nat)))))) h89 (Value.string s92) ∧
 HC Tryz.prog (30 : Nat)
 (Array.mk
 [Value.slice a9 k10 k11,
 Value.agg (Array.mk [Value.string s92, Value.string (ByteArray.mk (Array.mk [])), Value.bool true])])
 h89 fun (v93 : Value) (h94 : Heap) =>
 ∃ (a95 : Option Addr),
 ∃ (k96 : Nat),
 ∃ (k97 : Nat),
 v93 = Value.slice a95 k96 k97 ∧
 ∃ (p98 : Addr),
 (A = some p98 ∧ (0 : Int) ≤ p ∧ p < (↑n : Int)) ∧
 ∃ (s99 : ByteArray),
 Reads Tryz.prog (Instr.loadAt (9 : Nat) (Value.pointer (some (p98.add (p.toNat * (1 : Nat)))))) h94
 (Value.string s99) ∧
 HC Tryz.prog (22 : Nat) (Array.mk [Value.pointer a5, Value.string s99]) h94
 fun (v100 : Value) (h101 : Heap) =>
 ∃ (h102 : Array Value),
 ∃ (n103 : Int),
 v100 = Value.tuple (Array.mk [Value.agg h102, Value.int IntKind.i64 n103]) ∧
 ∃ (h104 : Array Value),
 IsZ Tryz.prog (24 : Nat) h104 ∧
 SVC Tryz.prog
 (Instr.storeAt (24 : Nat) (Value.pointer (some (Addr.mk (Array.size h101) (0 : Nat) none)))
 (Value.agg h102))
 (Array.push h101 (Obj.cells h104 (24 : Nat))) fun (x105 : Unit) (h106 : Heap) =>
 br (n103 != (5 : Int)) (R (Value.bool false) h106)
 (HC Tryz.prog (19 : Nat) (Array.mk [Value.pointer a5]) h106
 fun (v107 : Value) (h108 : Heap) =>
 ∃ (a109 : Option Addr),
 ∃ (k110 : Nat),
 ∃ (k111 : Nat),
 ∃ (n112 : Int),
 v107 =
 Value.tuple
 (Array.mk [Value.slice a109 k110 k111, Value.int IntKind.i64 n112]) ∧
 br (n112 != (0 : Int) || (↑k110 : Int) != (↑k96 : Int))
 (R (Value.bool false) h108)
 (∃ (I113 : Bool → Int → Heap → Prop),
 ∃ (I114 : Bool → Int → Heap → Nat),
 I113 b8 (0 : Int) h108 ∧
 ∀ (b115 : Bool) (n116 : Int) (h117 : Heap),
 I113 b115 n116 h117 →
 br (decide (n116 < (↑k110 : Int)))
 (∃ (p118 : Addr),
 (a109 = some p118 ∧ (0 : Int) ≤ n116 ∧ n116 < (↑k110 : Int)) ∧
 ∃ (h119 : Array Value),
 Reads Tryz.prog
 (Instr.loadAt (47 : Nat)
 (Value.pointer
 (some (p118.add (n116.toNat * (34 : Nat))))))
 h117 (Value.agg h119) ∧
 ∃ (h120 : Array Value),
 IsZ Tryz.prog (47 : Nat) h120 ∧
 SVC Tryz.prog
 (Instr.storeAt (47 : Nat)
 (Value.pointer
 (some (Addr.mk (Array.size h117) (0 : Nat) none)))
 (Value.agg h119))
 (Array.push h117 (Obj.cells h120 (47 : Nat)))
 fun (x121 : Unit) (h122 : Heap) =>
 ∃ (I123 : Heap → Prop),
 I123 h122 ∧
 ∃ (s124 : ByteArray),
 Reads Tryz.prog
 (Instr.loadAt (9 : Nat)
 (Value.pointer
 (some
 (Addr.mk (Array.size h117) (0 : Nat)
 none))))
 h122 (Value.string s124) ∧
 ∃ (p125 : Addr),
 (a95 = some p125 ∧
 (0 : Int) ≤ n116 ∧
 n116 < (↑k96 : Int)) ∧
 ∃ (s126 : ByteArray),
 Reads Tryz.prog
 (Instr.loadAt (9 : Nat)
 (Value.pointer
 (some
 (p125.add
 (n116.toNat * (2 : Nat))))))
 h122 (Value.string s126) ∧
 ∃ (h127 : Array Value),
 ((!!s124.toList == s126.toList) =
 true →
 Reads Tryz.prog
 (Instr.loadAt (24 : Nat)
 (Value.pointer
 (some
 ((Addr.mk
 (Array.size h117)
 (0 : Nat)
 none).add
 (1 : Nat)))))
 h122 (Value.agg h127)) ∧
 br
 (bif
 bif
 s124.toList ==
 s126.toList then
 false
 else true then
 false
 else true)
 (HC Tryz.prog (11 : Nat)
 (Array.mk [Value.agg h127])
 h122
 fun (v128 : Value)
 (h129 : Heap) =>
 ∃ (s130 : ByteArray),
 v128 = Value.string s130 ∧
 I123 h129 ∧
 ∃ (p131 : Addr),
 (true = true →
 a95 = some p131 ∧
 (0 : Int) ≤
 n116 ∧
 n116 <
 (↑k96 :
 Int)) ∧
 ∃ (s132 :
 ByteArray),
 (true = true →
 ∀
 (h133 :
 Heap),
 I123 h133 →
 Reads
 Tryz.prog
 (Instr.loadAt
 (9 :
 Nat)
 (Value.pointer
 (some
 ((p131.add
 (n116.toNat *
 (2 :
 Nat))).add
 (1 :
 Nat)))))
 h133
 (Value.string
 s132)) ∧
 br
 (!s130.toList ==
 s132.toList)
 (R
 (Value.bool
 false)
 h129)
 (I113 b115
 (IntKind.i64.wrap
 (n116 +
 (1 :
 Int)))
 h129 ∧
 I114 b115
 (IntKind.i64.wrap
 (n116 +
 (1 :
 Int)))
 h129 <
 I114 b115
 n116
 h117))
 (R (Value.bool false) h122))
 (R (Value.bool true) h117))))
 (HC Tryz.prog (19 : Nat) (Array.mk [Value.pointer a5]) h13 fun (v134 : Value) (h135 : Heap) =>
 ∃ (a136 : Option Addr),
 ∃ (k137 : Nat),
 ∃ (k138 : Nat),
 ∃ (n139 : Int),
 v134 = Value.tuple (Array.mk [Value.slice a136 k137 k138, Value.int IntKind.i64 n139]) ∧
 br (n139 != (0 : Int) || (↑k137 : Int) != (↑k10 : Int)) (R (Value.bool false) h135)
 (∃ (I140 : Bool → Int → Heap → Prop),
 ∃ (I141 : Bool → Int → Heap → Nat),
 I140 b8 (0 : Int) h135 ∧
 ∀ (b142 : Bool) (n143 : Int) (h144 : Heap),
 I140 b142 n143 h144 →
 br (decide (n143 < (↑k137 : Int)))
 (∃ (p145 : Addr),
 (a136 = some p145 ∧ (0 : Int) ≤ n143 ∧ n143 < (↑k137 : Int)) ∧
 ∃ (h146 : Array Value),
 Reads Tryz.prog (Instr.loadAt (47 : Nat) (Value.pointer (some (p145.add (n143.toNat * (34 : Nat)))))) h144 (Value.agg h146) ∧
 ∃ (h147 : Array Value),
 IsZ Tryz.prog (47 : Nat) h147 ∧
 SVC Tryz.prog (Instr.storeAt (47 : Nat) (Value.pointer (some (Addr.mk (Array.size h144) (0 : Nat) none))) (Value.agg h146))
 (Array.push h144 (Obj.cells h147 (47 : Nat))) fun (x148 : Unit) (h149 : Heap) =>
 ∃ (I150 : Heap → Prop),
 I150 h149 ∧
 ∃ (s151 : ByteArray),
 Reads Tryz.prog (Instr.loadAt (9 : Nat) (Value.pointer (some (Addr.mk (Array.size h144) (0 : Nat) none)))) h149
 (Value.string s151) ∧
 ∃ (p152 : Addr),
 (a9 = some p152 ∧ (0 : Int) ≤ n143 ∧ n143 < (↑k10 : Int)) ∧
 ∃ (s153 : ByteArray),
 Reads Tryz.prog (Instr.loadAt (9 : Nat) (Value.pointer (some (p152.add (n143.toNat * (2 : Nat)))))) h149
 (Value.string s153) ∧
 ∃ (h154 : Array Value),
 ((!!s151.toList == s153.toList) = true →
 Reads Tryz.prog
 (Instr.loadAt (24 : Nat)
 (Value.pointer (some ((Addr.mk (Array.size h144) (0 : Nat) none).add (1 : Nat)))))
 h149 (Value.agg h154)) ∧
 br (bif bif s151.toList == s153.toList then false else true then false else true)
 (HC Tryz.prog (11 : Nat) (Array.mk [Value.agg h154]) h149 fun (v155 : Value) (h156 : Heap) =>
 ∃ (s157 : ByteArray),
 v155 = Value.string s157 ∧
 I150 h156 ∧
 ∃ (p158 : Addr),
 (true = true → a9 = some p158 ∧ (0 : Int) ≤ n143 ∧ n143 < (↑k10 : Int)) ∧
 ∃ (s159 : ByteArray),
 (true = true →
 ∀ (h160 : Heap),
 I150 h160 →
 Reads Tryz.prog
 (Instr.loadAt (9 : Nat)
 (Value.pointer (some ((p158.add (n143.toNat * (2 : Nat))).add (1 : Nat)))))
 h160 (Value.string s159)) ∧
 br (!s157.toList == s159.toList) (R (Value.bool false) h156)
 (I140 b142 (IntKind.i64.wrap (n143 + (1 : Int))) h156 ∧
 I141 b142 (IntKind.i64.wrap (n143 + (1 : Int))) h156 < I141 b142 n143 h144))
 (R (Value.bool false) h149))
 (R (Value.bool true) h144))))))) := by kernel_rfl
end Go.Proofs.YtmdcfmhkfomoaaaGreatDoor
