/-
  Texts of this seat, laid one behind the other: Ls8 Ls10 LmDo KwL LmK. Conditions: none.
-/
import Derived.Test.YtkhinnchplahlaaGreatDoorX5
import Derived.Test.YtkhinnchplahlaaGreatDoorProg
import Derived.KernelRfl
import Derived.Test.YtkhinnchplahlaaGreatDoorRows
import Derived.ProofKit
import Derived.LaidLaws
import Derived.Deep.DeepLaidRun
import Derived.Lib.LaidTab
section
set_option linter.unusedVariables false
set_option maxRecDepth 100000
namespace Go.Proofs.YtkhinnchplahlaaGreatDoor
open Go Go.Vc Go.Proofs

theorem vcLDoes (A : Option Addr) (n c : Nat) (h : Heap) (R : Value → Heap → Prop) :
    vcF Tryz.prog Tryz.f6 155 [] [] [.slice A n c] h R =
(HC Tryz.prog (8 : Nat) (Array.mk []) h fun (v0 : Value) (h1 : Heap) =>
 ∃ (b2 : Bool),
 v0 = Value.bool b2 ∧
 br (!b2) (R (Value.bool false) h1)
 (HC Tryz.prog (9 : Nat) (Array.mk [Value.slice A n c]) h1 fun (v3 : Value) (h4 : Heap) =>
 ∃ (b5 : Bool),
 v3 = Value.bool b5 ∧
 br b5 (R (Value.bool true) h4)
 (HC Tryz.prog (10 : Nat) (Array.mk [Value.int IntKind.i64 (4096 : Int)]) h4 fun (v6 : Value) (h7 : Heap) =>
 ∃ (a8 : Option Addr),
 v6 = Value.pointer a8 ∧
 HC Tryz.prog (11 : Nat) (Array.mk [Value.pointer a8, Value.string (ByteArray.mk (Array.mk [(116 : UInt8)]))]) h7 fun (v9 : Value) (h10 : Heap) =>
 ∃ (a11 : Option Addr),
 ∃ (n12 : Int),
 v9 = Value.tuple (Array.mk [Value.pointer a11, Value.int IntKind.i64 n12]) ∧
 br (n12 != (0 : Int)) (R (Value.bool false) h10)
 (∃ (I13 : Bool → Option Addr → Nat → Nat → Int → Heap → Prop),
 ∃ (I14 : Bool → Option Addr → Nat → Nat → Int → Heap → Nat),
 I13 false none (0 : Nat) (0 : Nat) (0 : Int) h10 ∧
 ∀ (b15 : Bool) (a16 : Option Addr) (k17 k18 : Nat) (n19 : Int) (h20 : Heap),
 I13 b15 a16 k17 k18 n19 h20 →
 br (decide (n19 < (↑n : Int)))
 (∃ (p21 : Addr),
 (A = some p21 ∧ (0 : Int) ≤ n19 ∧ n19 < (↑n : Int)) ∧
 ∃ (a22 : Option Addr),
 ∃ (k23 : Nat),
 ∃ (k24 : Nat),
 ∃ (s25 : ByteArray),
 ∃ (n26 : Int),
 ∃ (b27 : Bool),
 ∃ (b28 : Bool),
 ∃ (n29 : Int),
 ∃ (n30 : Int),
 Reads Tryz.prog (Instr.loadAt (35 : Nat) (Value.pointer (some (p21.add (n19.toNat * (7 : Nat)))))) h20
 (Value.agg
 (Array.mk
 [Value.slice a22 k23 k24, Value.string s25, Value.int IntKind.i64 n26, Value.bool b27, Value.bool b28,
 Value.int IntKind.i64 n29, Value.int IntKind.u64 n30])) ∧
 SVC Tryz.prog
 (Instr.storeAt (35 : Nat) (Value.pointer (some (Addr.mk (Array.size h20) (0 : Nat) none)))
 (Value.agg
 (Array.mk
 [Value.slice a22 k23 k24, Value.string s25, Value.int IntKind.i64 n26, Value.bool b27, Value.bool b28,
 Value.int IntKind.i64 n29, Value.int IntKind.u64 n30])))
 (Array.push h20
 (Obj.cells
 (Array.mk
 [Value.slice none (0 : Nat) (0 : Nat), Value.string (ByteArray.mk (Array.mk [])), Value.int IntKind.i64 (0 : Int),
 Value.bool false, Value.bool false, Value.int IntKind.i64 (0 : Int), Value.int IntKind.u64 (0 : Int)])
 (35 : Nat)))
 fun (x31 : Unit) (h32 : Heap) =>
 ∃ (a33 : Option Addr),
 ∃ (k34 : Nat),
 ∃ (k35 : Nat),
 Reads Tryz.prog (Instr.loadAt (32 : Nat) (Value.pointer (some (Addr.mk (Array.size h20) (0 : Nat) none)))) h32
 (Value.slice a33 k34 k35) ∧
 HC Tryz.prog (12 : Nat) (Array.mk [Value.slice a33 k34 k35]) h32 fun (v36 : Value) (h37 : Heap) =>
 ∃ (b38 : Bool),
 v36 = Value.bool b38 ∧
 br b38
 (∃ (a39 : Option Addr),
 ∃ (k40 : Nat),
 ∃ (k41 : Nat),
 Reads Tryz.prog (Instr.loadAt (32 : Nat) (Value.pointer (some (Addr.mk (Array.size h20) (0 : Nat) none))))
 h37 (Value.slice a39 k40 k41) ∧
 HC Tryz.prog (13 : Nat) (Array.mk [Value.pointer a11, Value.slice a39 k40 k41]) h37
 fun (v42 : Value) (h43 : Heap) =>
 ∃ (n44 : Int),
 v42 = Value.int IntKind.i64 n44 ∧
 br (bif bif n44 == (3 : Int) then false else true then false else true)
 (HC Tryz.prog (16 : Nat) (Array.mk [Value.pointer a11]) h43 fun (v45 : Value) (h46 : Heap) =>
 ∃ (n47 : Int),
 v45 = Value.int IntKind.i64 n47 ∧
 ∃ (b48 : Bool),
 ((!decide (n47 > (4 : Int))) = true →
 Reads Tryz.prog
 (Instr.loadAt (4 : Nat)
 (Value.pointer (some ((Addr.mk (Array.size h20) (0 : Nat) none).add (3 : Nat)))))
 h46 (Value.bool b48)) ∧
 br (bif decide (n47 > (4 : Int)) then false else true)
 (br b48
 (HC Tryz.prog (17 : Nat) (Array.mk [Value.pointer a11]) h46
 fun (v49 : Value) (h50 : Heap) =>
 ∃ (n51 : Int),
 v49 = Value.int IntKind.i64 n51 ∧
 br (n51 != (0 : Int)) (R (Value.bool false) h50)
 (∃ (s52 : ByteArray),
 Reads Tryz.prog
 (Instr.loadAt (9 : Nat)
 (Value.pointer
 (some ((Addr.mk (Array.size h20) (0 : Nat) none).add (1 : Nat)))))
 h50 (Value.string s52) ∧
 HC Tryz.prog (18 : Nat) (Array.mk [Value.pointer a11, Value.string s52])
 h50 fun (v53 : Value) (h54 : Heap) =>
 ∃ (s55 : ByteArray),
 ∃ (b56 : Bool),
 v53 = Value.tuple (Array.mk [Value.string s55, Value.bool b56]) ∧
 ∃ (s57 : ByteArray),
 Reads Tryz.prog
 (Instr.loadAt (9 : Nat)
 (Value.pointer
 (some
 ((Addr.mk (Array.size h20) (0 : Nat) none).add
 (1 : Nat)))))
 h54 (Value.string s57) ∧
 HC Tryz.prog (19 : Nat)
 (Array.mk [Value.slice a16 k17 k18, Value.string s57]) h54
 fun (v58 : Value) (h59 : Heap) =>
 ∃ (n60 : Int),
 v58 = Value.int IntKind.i64 n60 ∧
 ∃ (I61 : Heap → Prop),
 I61 h59 ∧
 HC Tryz.prog (15 : Nat)
 (Array.mk
 [Value.pointer a11, Value.slice a16 k17 k18])
 h59 fun (v62 : Value) (h63 : Heap) =>
 ∃ (b64 : Bool),
 v62 = Value.bool b64 ∧
 I61 h63 ∧
 ∃ (s65 : ByteArray),
 ((!!b64) = true →
 Reads Tryz.prog
 (Instr.loadAt (9 : Nat)
 (Value.pointer
 (some
 ((Addr.mk (Array.size h20)
 (0 : Nat) none).add
 (1 : Nat)))))
 h63 (Value.string s65)) ∧
 ∃ (n66 : Int),
 ((!!b64) = true →
 Reads Tryz.prog
 (Instr.loadAt (3 : Nat)
 (Value.pointer
 (some
 ((Addr.mk
 (Array.size h20)
 (0 : Nat)
 none).add
 (2 : Nat)))))
 h63
 (Value.int IntKind.i64 n66)) ∧
 br
 (bif
 bif b64 then false
 else true then
 false
 else true)
 (HC Tryz.prog (21 : Nat)
 (Array.mk
 [Value.pointer a11,
 Value.string s65,
 Value.int IntKind.i64
 n66])
 h63
 fun (v67 : Value)
 (h68 : Heap) =>
 ∃ (a69 : Option Addr),
 ∃ (k70 : Nat),
 ∃ (k71 : Nat),
 v67 =
 Value.slice a69 k70
 k71 ∧
 I61 h68 ∧
 ∃ (s72 : ByteArray),
 (true = true →
 ∀
 (h73 :
 Heap),
 I61 h73 →
 Reads
 Tryz.prog
 (Instr.loadAt
 (9 :
 Nat)
 (Value.pointer
 (some
 ((Addr.mk
 (Array.size
 h20)
 (0 :
 Nat)
 none).add
 (1 :
 Nat)))))
 h73
 (Value.string
 s72)) ∧
 ∃ (n74 : Int),
 (true = true →
 ∀
 (h75 :
 Heap),
 I61
 h75 →
 Reads
 Tryz.prog
 (Instr.loadAt
 (3 :
 Nat)
 (Value.pointer
 (some
 ((Addr.mk
 (Array.size
 h20)
 (0 :
 Nat)
 none).add
 (2 :
 Nat)))))
 h75
 (Value.int
 IntKind.i64
 n74)) ∧
 HC Tryz.prog
 (22 : Nat)
 (Array.mk
 [Value.slice
 a16
 k17
 k18,
 Value.string
 s72,
 Value.int
 IntKind.i64
 n74])
 h68
 fun
 (v76 :
 Value)
 (h77 :
 Heap) =>
 ∃ (a78 :
 Option
 Addr),
 ∃ (k79 :
 Nat),
 ∃ (k80
 :
 Nat),
 v76 =
 Value.slice
 a78
 k79
 k80 ∧
 HC
 Tryz.prog
 (20 :
 Nat)
 (Array.mk
 [Value.slice
 a69
 k70
 k71,
 Value.slice
 a78
 k79
 k80])
 h77
 fun
 (v81 :
 Value)
 (h82 :
 Heap) =>
 ∃
 (b83
 :
 Bool),
 v81 =
 Value.bool
 b83 ∧
 ∃
 (b84
 :
 Bool),
 ((!!b83) =
 true →
 Reads
 Tryz.prog
 (eqSem
 BinOp.neq
 (4 :
 Nat)
 (Operand.tmp
 (93 :
 Nat))
 (Operand.tmp
 (95 :
 Nat))
 (Value.bool
 b56)
 (Value.bool
 (decide
 (n60 ≥
 (0 :
 Int)))))
 h82
 (Value.bool
 b84)) ∧
 ∃
 (p85
 :
 Addr),
 ((b56 &&
 !(!b83 ||
 b84)) =
 true →
 a16 =
 some
 p85 ∧
 (0 :
 Int) ≤
 n60 ∧
 n60 <
 (↑k17 :
 Int)) ∧
 ∃
 (s86
 :
 ByteArray),
 ((b56 &&
 !(!b83 ||
 b84)) =
 true →
 Reads
 Tryz.prog
 (Instr.loadAt
 (9 :
 Nat)
 (Value.pointer
 (some
 ((p85.add
 (n60.toNat *
 (2 :
 Nat))).add
 (1 :
 Nat)))))
 h82
 (Value.string
 s86)) ∧
 br
 (!b83 ||
 b84 ||
 b56 &&
 !s55.toList ==
 s86.toList ||
 !b56 &&
 !s55.toList ==
 [])
 (R
 (Value.bool
 false)
 h82)
 (I13
 b15
 a16
 k17
 k18
 (IntKind.i64.wrap
 (n19 +
 (1 :
 Int)))
 h82 ∧
 I14
 b15
 a16
 k17
 k18
 (IntKind.i64.wrap
 (n19 +
 (1 :
 Int)))
 h82 <
 I14
 b15
 a16
 k17
 k18
 n19
 h20))
 (∃ (b87 : Bool),
 (false = true →
 Reads Tryz.prog
 (eqSem BinOp.neq
 (4 : Nat)
 (Operand.tmp
 (93 : Nat))
 (Operand.tmp
 (95 : Nat))
 (Value.bool b56)
 (Value.bool
 (decide
 (n60 ≥
 (0 : Int)))))
 h63 (Value.bool b87)) ∧
 ∃ (p88 : Addr),
 ((b56 && false) = true →
 a16 = some p88 ∧
 (0 : Int) ≤ n60 ∧
 n60 <
 (↑k17 : Int)) ∧
 ∃ (s89 : ByteArray),
 ((b56 && false) =
 true →
 Reads Tryz.prog
 (Instr.loadAt
 (9 : Nat)
 (Value.pointer
 (some
 ((p88.add
 (n60.toNat *
 (2 :
 Nat))).add
 (1 :
 Nat)))))
 h63
 (Value.string
 s89)) ∧
 R (Value.bool false)
 h63)))
 (∃ (s90 : ByteArray),
 Reads Tryz.prog
 (Instr.loadAt (9 : Nat)
 (Value.pointer
 (some ((Addr.mk (Array.size h20) (0 : Nat) none).add (1 : Nat)))))
 h46 (Value.string s90) ∧
 HC Tryz.prog (18 : Nat) (Array.mk [Value.pointer a11, Value.string s90]) h46
 fun (v91 : Value) (h92 : Heap) =>
 ∃ (s93 : ByteArray),
 ∃ (b94 : Bool),
 v91 = Value.tuple (Array.mk [Value.string s93, Value.bool b94]) ∧
 ∃ (s95 : ByteArray),
 Reads Tryz.prog
 (Instr.loadAt (9 : Nat)
 (Value.pointer
 (some
 ((Addr.mk (Array.size h20) (0 : Nat) none).add (1 : Nat)))))
 h92 (Value.string s95) ∧
 HC Tryz.prog (19 : Nat)
 (Array.mk [Value.slice a16 k17 k18, Value.string s95]) h92
 fun (v96 : Value) (h97 : Heap) =>
 ∃ (n98 : Int),
 v96 = Value.int IntKind.i64 n98 ∧
 ∃ (I99 : Heap → Prop),
 I99 h97 ∧
 HC Tryz.prog (15 : Nat)
 (Array.mk [Value.pointer a11, Value.slice a16 k17 k18])
 h97 fun (v100 : Value) (h101 : Heap) =>
 ∃ (b102 : Bool),
 v100 = Value.bool b102 ∧
 I99 h101 ∧
 ∃ (s103 : ByteArray),
 ((!!b102) = true →
 Reads Tryz.prog
 (Instr.loadAt (9 : Nat)
 (Value.pointer
 (some
 ((Addr.mk (Array.size h20) (0 : Nat)
 none).add
 (1 : Nat)))))
 h101 (Value.string s103)) ∧
 ∃ (n104 : Int),
 ((!!b102) = true →
 Reads Tryz.prog
 (Instr.loadAt (3 : Nat)
 (Value.pointer
 (some
 ((Addr.mk (Array.size h20)
 (0 : Nat) none).add
 (2 : Nat)))))
 h101 (Value.int IntKind.i64 n104)) ∧
 br
 (bif bif b102 then false else true then
 false
 else true)
 (HC Tryz.prog (21 : Nat)
 (Array.mk
 [Value.pointer a11,
 Value.string s103,
 Value.int IntKind.i64 n104])
 h101
 fun (v105 : Value) (h106 : Heap) =>
 ∃ (a107 : Option Addr),
 ∃ (k108 : Nat),
 ∃ (k109 : Nat),
 v105 =
 Value.slice a107 k108 k109 ∧
 I99 h106 ∧
 ∃ (s110 : ByteArray),
 (true = true →
 ∀ (h111 : Heap),
 I99 h111 →
 Reads Tryz.prog
 (Instr.loadAt
 (9 : Nat)
 (Value.pointer
 (some
 ((Addr.mk
 (Array.size
 h20)
 (0 :
 Nat)
 none).add
 (1 :
 Nat)))))
 h111
 (Value.string
 s110)) ∧
 ∃ (n112 : Int),
 (true = true →
 ∀ (h113 : Heap),
 I99 h113 →
 Reads
 Tryz.prog
 (Instr.loadAt
 (3 : Nat)
 (Value.pointer
 (some
 ((Addr.mk
 (Array.size
 h20)
 (0 :
 Nat)
 none).add
 (2 :
 Nat)))))
 h113
 (Value.int
 IntKind.i64
 n112)) ∧
 HC Tryz.prog
 (22 : Nat)
 (Array.mk
 [Value.slice a16
 k17 k18,
 Value.string
 s110,
 Value.int
 IntKind.i64
 n112])
 h106
 fun (v114 : Value)
 (h115 : Heap) =>
 ∃ (a116 :
 Option Addr),
 ∃ (k117 : Nat),
 ∃ (k118 :
 Nat),
 v114 =
 Value.slice
 a116
 k117
 k118 ∧
 HC
 Tryz.prog
 (20 :
 Nat)
 (Array.mk
 [Value.slice
 a107
 k108
 k109,
 Value.slice
 a116
 k117
 k118])
 h115
 fun
 (v119 :
 Value)
 (h120 :
 Heap) =>
 ∃ (b121
 :
 Bool),
 v119 =
 Value.bool
 b121 ∧
 ∃
 (b122
 :
 Bool),
 ((!!b121) =
 true →
 Reads
 Tryz.prog
 (eqSem
 BinOp.neq
 (4 :
 Nat)
 (Operand.tmp
 (93 :
 Nat))
 (Operand.tmp
 (95 :
 Nat))
 (Value.bool
 b94)
 (Value.bool
 (decide
 (n98 ≥
 (0 :
 Int)))))
 h120
 (Value.bool
 b122)) ∧
 ∃
 (p123
 :
 Addr),
 ((b94 &&
 !(!b121 ||
 b122)) =
 true →
 a16 =
 some
 p123 ∧
 (0 :
 Int) ≤
 n98 ∧
 n98 <
 (↑k17 :
 Int)) ∧
 ∃
 (s124
 :
 ByteArray),
 ((b94 &&
 !(!b121 ||
 b122)) =
 true →
 Reads
 Tryz.prog
 (Instr.loadAt
 (9 :
 Nat)
 (Value.pointer
 (some
 ((p123.add
 (n98.toNat *
 (2 :
 Nat))).add
 (1 :
 Nat)))))
 h120
 (Value.string
 s124)) ∧
 br
 (!b121 ||
 b122 ||
 b94 &&
 !s93.toList ==
 s124.toList ||
 !b94 &&
 !s93.toList ==
 [])
 (R
 (Value.bool
 false)
 h120)
 (I13
 b15
 a16
 k17
 k18
 (IntKind.i64.wrap
 (n19 +
 (1 :
 Int)))
 h120 ∧
 I14
 b15
 a16
 k17
 k18
 (IntKind.i64.wrap
 (n19 +
 (1 :
 Int)))
 h120 <
 I14
 b15
 a16
 k17
 k18
 n19
 h20))
 (∃ (b125 : Bool),
 (false = true →
 Reads Tryz.prog
 (eqSem BinOp.neq (4 : Nat)
 (Operand.tmp (93 : Nat))
 (Operand.tmp (95 : Nat))
 (Value.bool b94)
 (Value.bool
 (decide (n98 ≥ (0 : Int)))))
 h101 (Value.bool b125)) ∧
 ∃ (p126 : Addr),
 ((b94 && false) = true →
 a16 = some p126 ∧
 (0 : Int) ≤ n98 ∧
 n98 < (↑k17 : Int)) ∧
 ∃ (s127 : ByteArray),
 ((b94 && false) = true →
 Reads Tryz.prog
 (Instr.loadAt (9 : Nat)
 (Value.pointer
 (some
 ((p126.add
 (n98.toNat *
 (2 :
 Nat))).add
 (1 : Nat)))))
 h101
 (Value.string s127)) ∧
 R (Value.bool false) h101)))
 (R (Value.bool false) h46))
 (∃ (b128 : Bool),
 (false = true →
 Reads Tryz.prog
 (Instr.loadAt (4 : Nat)
 (Value.pointer (some ((Addr.mk (Array.size h20) (0 : Nat) none).add (3 : Nat)))))
 h43 (Value.bool b128)) ∧
 R (Value.bool false) h43))
 (∃ (a129 : Option Addr),
 ∃ (k130 : Nat),
 ∃ (k131 : Nat),
 Reads Tryz.prog (Instr.loadAt (32 : Nat) (Value.pointer (some (Addr.mk (Array.size h20) (0 : Nat) none))))
 h37 (Value.slice a129 k130 k131) ∧
 HC Tryz.prog (14 : Nat) (Array.mk [Value.slice a16 k17 k18, Value.slice a129 k130 k131]) h37
 fun (v132 : Value) (h133 : Heap) =>
 ∃ (a134 : Option Addr),
 ∃ (k135 : Nat),
 ∃ (k136 : Nat),
 v132 = Value.slice a134 k135 k136 ∧
 ∃ (a137 : Option Addr),
 ∃ (k138 : Nat),
 ∃ (k139 : Nat),
 Reads Tryz.prog
 (Instr.loadAt (32 : Nat)
 (Value.pointer (some (Addr.mk (Array.size h20) (0 : Nat) none))))
 h133 (Value.slice a137 k138 k139) ∧
 HC Tryz.prog (13 : Nat) (Array.mk [Value.pointer a11, Value.slice a137 k138 k139]) h133
 fun (v140 : Value) (h141 : Heap) =>
 ∃ (n142 : Int),
 v140 = Value.int IntKind.i64 n142 ∧
 br (bif bif n142 == (0 : Int) then false else true then false else true)
 (HC Tryz.prog (16 : Nat) (Array.mk [Value.pointer a11]) h141
 fun (v143 : Value) (h144 : Heap) =>
 ∃ (n145 : Int),
 v143 = Value.int IntKind.i64 n145 ∧
 ∃ (b146 : Bool),
 ((!decide (n145 > (4 : Int))) = true →
 Reads Tryz.prog
 (Instr.loadAt (4 : Nat)
 (Value.pointer
 (some
 ((Addr.mk (Array.size h20) (0 : Nat) none).add (3 : Nat)))))
 h144 (Value.bool b146)) ∧
 br (bif decide (n145 > (4 : Int)) then false else true)
 (br b146
 (HC Tryz.prog (17 : Nat) (Array.mk [Value.pointer a11]) h144
 fun (v147 : Value) (h148 : Heap) =>
 ∃ (n149 : Int),
 v147 = Value.int IntKind.i64 n149 ∧
 br (n149 != (0 : Int)) (R (Value.bool false) h148)
 (∃ (s150 : ByteArray),
 Reads Tryz.prog
 (Instr.loadAt (9 : Nat)
 (Value.pointer
 (some
 ((Addr.mk (Array.size h20) (0 : Nat) none).add
 (1 : Nat)))))
 h148 (Value.string s150) ∧
 HC Tryz.prog (18 : Nat)
 (Array.mk [Value.pointer a11, Value.string s150])
 h148 fun (v151 : Value) (h152 : Heap) =>
 ∃ (s153 : ByteArray),
 ∃ (b154 : Bool),
 v151 =
 Value.tuple
 (Array.mk
 [Value.string s153, Value.bool b154]) ∧
 ∃ (s155 : ByteArray),
 Reads Tryz.prog
 (Instr.loadAt (9 : Nat)
 (Value.pointer
 (some
 ((Addr.mk (Array.size h20)
 (0 : Nat) none).add
 (1 : Nat)))))
 h152 (Value.string s155) ∧
 HC Tryz.prog (19 : Nat)
 (Array.mk
 [Value.slice a134 k135 k136,
 Value.string s155])
 h152 fun (v156 : Value) (h157 : Heap) =>
 ∃ (n158 : Int),
 v156 = Value.int IntKind.i64 n158 ∧
 ∃ (I159 : Heap → Prop),
 I159 h157 ∧
 HC Tryz.prog (15 : Nat)
 (Array.mk
 [Value.pointer a11,
 Value.slice a134 k135
 k136])
 h157
 fun (v160 : Value)
 (h161 : Heap) =>
 ∃ (b162 : Bool),
 v160 = Value.bool b162 ∧
 I159 h161 ∧
 ∃ (s163 : ByteArray),
 ((!!b162) = true →
 Reads Tryz.prog
 (Instr.loadAt
 (9 : Nat)
 (Value.pointer
 (some
 ((Addr.mk
 (Array.size
 h20)
 (0 :
 Nat)
 none).add
 (1 :
 Nat)))))
 h161
 (Value.string
 s163)) ∧
 ∃ (n164 : Int),
 ((!!b162) = true →
 Reads
 Tryz.prog
 (Instr.loadAt
 (3 : Nat)
 (Value.pointer
 (some
 ((Addr.mk
 (Array.size
 h20)
 (0 :
 Nat)
 none).add
 (2 :
 Nat)))))
 h161
 (Value.int
 IntKind.i64
 n164)) ∧
 br
 (bif
 bif
 b162 then
 false
 else
 true then
 false
 else true)
 (HC Tryz.prog
 (21 : Nat)
 (Array.mk
 [Value.pointer
 a11,
 Value.string
 s163,
 Value.int
 IntKind.i64
 n164])
 h161
 fun
 (v165 :
 Value)
 (h166 :
 Heap) =>
 ∃ (a167 :
 Option
 Addr),
 ∃ (k168 :
 Nat),
 ∃ (k169
 :
 Nat),
 v165 =
 Value.slice
 a167
 k168
 k169 ∧
 I159
 h166 ∧
 ∃
 (s170
 :
 ByteArray),
 (true =
 true →
 ∀
 (h171 :
 Heap),
 I159
 h171 →
 Reads
 Tryz.prog
 (Instr.loadAt
 (9 :
 Nat)
 (Value.pointer
 (some
 ((Addr.mk
 (Array.size
 h20)
 (0 :
 Nat)
 none).add
 (1 :
 Nat)))))
 h171
 (Value.string
 s170)) ∧
 ∃
 (n172
 :
 Int),
 (true =
 true →
 ∀
 (h173 :
 Heap),
 I159
 h173 →
 Reads
 Tryz.prog
 (Instr.loadAt
 (3 :
 Nat)
 (Value.pointer
 (some
 ((Addr.mk
 (Array.size
 h20)
 (0 :
 Nat)
 none).add
 (2 :
 Nat)))))
 h173
 (Value.int
 IntKind.i64
 n172)) ∧
 HC
 Tryz.prog
 (22 :
 Nat)
 (Array.mk
 [Value.slice
 a134
 k135
 k136,
 Value.string
 s170,
 Value.int
 IntKind.i64
 n172])
 h166
 fun
 (v174 :
 Value)
 (h175 :
 Heap) =>
 ∃
 (a176
 :
 Option
 Addr),
 ∃
 (k177
 :
 Nat),
 ∃
 (k178
 :
 Nat),
 v174 =
 Value.slice
 a176
 k177
 k178 ∧
 HC
 Tryz.prog
 (20 :
 Nat)
 (Array.mk
 [Value.slice
 a167
 k168
 k169,
 Value.slice
 a176
 k177
 k178])
 h175
 fun
 (v179 :
 Value)
 (h180 :
 Heap) =>
 ∃
 (b181
 :
 Bool),
 v179 =
 Value.bool
 b181 ∧
 ∃
 (b182
 :
 Bool),
 ((!!b181) =
 true →
 Reads
 Tryz.prog
 (eqSem
 BinOp.neq
 (4 :
 Nat)
 (Operand.tmp
 (93 :
 Nat))
 (Operand.tmp
 (95 :
 Nat))
 (Value.bool
 b154)
 (Value.bool
 (decide
 (n158 ≥
 (0 :
 Int)))))
 h180
 (Value.bool
 b182)) ∧
 ∃
 (p183
 :
 Addr),
 ((b154 &&
 !(!b181 ||
 b182)) =
 true →
 a134 =
 some
 p183 ∧
 (0 :
 Int) ≤
 n158 ∧
 n158 <
 (↑k135 :
 Int)) ∧
 ∃
 (s184
 :
 ByteArray),
 ((b154 &&
 !(!b181 ||
 b182)) =
 true →
 Reads
 Tryz.prog
 (Instr.loadAt
 (9 :
 Nat)
 (Value.pointer
 (some
 ((p183.add
 (n158.toNat *
 (2 :
 Nat))).add
 (1 :
 Nat)))))
 h180
 (Value.string
 s184)) ∧
 br
 (!b181 ||
 b182 ||
 b154 &&
 !s153.toList ==
 s184.toList ||
 !b154 &&
 !s153.toList ==
 [])
 (R
 (Value.bool
 false)
 h180)
 (I13
 b15
 a134
 k135
 k136
 (IntKind.i64.wrap
 (n19 +
 (1 :
 Int)))
 h180 ∧
 I14
 b15
 a134
 k135
 k136
 (IntKind.i64.wrap
 (n19 +
 (1 :
 Int)))
 h180 <
 I14
 b15
 a16
 k17
 k18
 n19
 h20))
 (∃ (b185 :
 Bool),
 (false =
 true →
 Reads
 Tryz.prog
 (eqSem
 BinOp.neq
 (4 :
 Nat)
 (Operand.tmp
 (93 :
 Nat))
 (Operand.tmp
 (95 :
 Nat))
 (Value.bool
 b154)
 (Value.bool
 (decide
 (n158 ≥
 (0 :
 Int)))))
 h161
 (Value.bool
 b185)) ∧
 ∃ (p186 :
 Addr),
 ((b154 &&
 false) =
 true →
 a134 =
 some
 p186 ∧
 (0 :
 Int) ≤
 n158 ∧
 n158 <
 (↑k135 :
 Int)) ∧
 ∃
 (s187
 :
 ByteArray),
 ((b154 &&
 false) =
 true →
 Reads
 Tryz.prog
 (Instr.loadAt
 (9 :
 Nat)
 (Value.pointer
 (some
 ((p186.add
 (n158.toNat *
 (2 :
 Nat))).add
 (1 :
 Nat)))))
 h161
 (Value.string
 s187)) ∧
 R
 (Value.bool
 false)
 h161)))
 (∃ (s188 : ByteArray),
 Reads Tryz.prog
 (Instr.loadAt (9 : Nat)
 (Value.pointer
 (some
 ((Addr.mk (Array.size h20) (0 : Nat) none).add
 (1 : Nat)))))
 h144 (Value.string s188) ∧
 HC Tryz.prog (18 : Nat)
 (Array.mk [Value.pointer a11, Value.string s188]) h144
 fun (v189 : Value) (h190 : Heap) =>
 ∃ (s191 : ByteArray),
 ∃ (b192 : Bool),
 v189 =
 Value.tuple
 (Array.mk [Value.string s191, Value.bool b192]) ∧
 ∃ (s193 : ByteArray),
 Reads Tryz.prog
 (Instr.loadAt (9 : Nat)
 (Value.pointer
 (some
 ((Addr.mk (Array.size h20) (0 : Nat)
 none).add
 (1 : Nat)))))
 h190 (Value.string s193) ∧
 HC Tryz.prog (19 : Nat)
 (Array.mk
 [Value.slice a134 k135 k136,
 Value.string s193])
 h190 fun (v194 : Value) (h195 : Heap) =>
 ∃ (n196 : Int),
 v194 = Value.int IntKind.i64 n196 ∧
 ∃ (I197 : Heap → Prop),
 I197 h195 ∧
 HC Tryz.prog (15 : Nat)
 (Array.mk
 [Value.pointer a11,
 Value.slice a134 k135 k136])
 h195
 fun (v198 : Value) (h199 : Heap) =>
 ∃ (b200 : Bool),
 v198 = Value.bool b200 ∧
 I197 h199 ∧
 ∃ (s201 : ByteArray),
 ((!!b200) = true →
 Reads Tryz.prog
 (Instr.loadAt (9 : Nat)
 (Value.pointer
 (some
 ((Addr.mk
 (Array.size
 h20)
 (0 : Nat)
 none).add
 (1 : Nat)))))
 h199
 (Value.string s201)) ∧
 ∃ (n202 : Int),
 ((!!b200) = true →
 Reads Tryz.prog
 (Instr.loadAt
 (3 : Nat)
 (Value.pointer
 (some
 ((Addr.mk
 (Array.size
 h20)
 (0 :
 Nat)
 none).add
 (2 :
 Nat)))))
 h199
 (Value.int
 IntKind.i64
 n202)) ∧
 br
 (bif
 bif b200 then
 false
 else true then
 false
 else true)
 (HC Tryz.prog
 (21 : Nat)
 (Array.mk
 [Value.pointer
 a11,
 Value.string
 s201,
 Value.int
 IntKind.i64
 n202])
 h199
 fun (v203 : Value)
 (h204 : Heap) =>
 ∃ (a205 :
 Option Addr),
 ∃ (k206 : Nat),
 ∃ (k207 : Nat),
 v203 =
 Value.slice
 a205
 k206
 k207 ∧
 I197 h204 ∧
 ∃ (s208 :
 ByteArray),
 (true =
 true →
 ∀
 (h209 :
 Heap),
 I197
 h209 →
 Reads
 Tryz.prog
 (Instr.loadAt
 (9 :
 Nat)
 (Value.pointer
 (some
 ((Addr.mk
 (Array.size
 h20)
 (0 :
 Nat)
 none).add
 (1 :
 Nat)))))
 h209
 (Value.string
 s208)) ∧
 ∃
 (n210
 :
 Int),
 (true =
 true →
 ∀
 (h211 :
 Heap),
 I197
 h211 →
 Reads
 Tryz.prog
 (Instr.loadAt
 (3 :
 Nat)
 (Value.pointer
 (some
 ((Addr.mk
 (Array.size
 h20)
 (0 :
 Nat)
 none).add
 (2 :
 Nat)))))
 h211
 (Value.int
 IntKind.i64
 n210)) ∧
 HC
 Tryz.prog
 (22 :
 Nat)
 (Array.mk
 [Value.slice
 a134
 k135
 k136,
 Value.string
 s208,
 Value.int
 IntKind.i64
 n210])
 h204
 fun
 (v212 :
 Value)
 (h213 :
 Heap) =>
 ∃
 (a214
 :
 Option
 Addr),
 ∃
 (k215
 :
 Nat),
 ∃
 (k216
 :
 Nat),
 v212 =
 Value.slice
 a214
 k215
 k216 ∧
 HC
 Tryz.prog
 (20 :
 Nat)
 (Array.mk
 [Value.slice
 a205
 k206
 k207,
 Value.slice
 a214
 k215
 k216])
 h213
 fun
 (v217 :
 Value)
 (h218 :
 Heap) =>
 ∃
 (b219
 :
 Bool),
 v217 =
 Value.bool
 b219 ∧
 ∃
 (b220
 :
 Bool),
 ((!!b219) =
 true →
 Reads
 Tryz.prog
 (eqSem
 BinOp.neq
 (4 :
 Nat)
 (Operand.tmp
 (93 :
 Nat))
 (Operand.tmp
 (95 :
 Nat))
 (Value.bool
 b192)
 (Value.bool
 (decide
 (n196 ≥
 (0 :
 Int)))))
 h218
 (Value.bool
 b220)) ∧
 ∃
 (p221
 :
 Addr),
 ((b192 &&
 !(!b219 ||
 b220)) =
 true →
 a134 =
 some
 p221 ∧
 (0 :
 Int) ≤
 n196 ∧
 n196 <
 (↑k135 :
 Int)) ∧
 ∃
 (s222
 :
 ByteArray),
 ((b192 &&
 !(!b219 ||
 b220)) =
 true →
 Reads
 Tryz.prog
 (Instr.loadAt
 (9 :
 Nat)
 (Value.pointer
 (some
 ((p221.add
 (n196.toNat *
 (2 :
 Nat))).add
 (1 :
 Nat)))))
 h218
 (Value.string
 s222)) ∧
 br
 (!b219 ||
 b220 ||
 b192 &&
 !s191.toList ==
 s222.toList ||
 !b192 &&
 !s191.toList ==
 [])
 (R
 (Value.bool
 false)
 h218)
 (I13
 b15
 a134
 k135
 k136
 (IntKind.i64.wrap
 (n19 +
 (1 :
 Int)))
 h218 ∧
 I14
 b15
 a134
 k135
 k136
 (IntKind.i64.wrap
 (n19 +
 (1 :
 Int)))
 h218 <
 I14
 b15
 a16
 k17
 k18
 n19
 h20))
 (∃ (b223 : Bool),
 (false = true →
 Reads Tryz.prog
 (eqSem
 BinOp.neq
 (4 : Nat)
 (Operand.tmp
 (93 :
 Nat))
 (Operand.tmp
 (95 :
 Nat))
 (Value.bool
 b192)
 (Value.bool
 (decide
 (n196 ≥
 (0 :
 Int)))))
 h199
 (Value.bool
 b223)) ∧
 ∃ (p224 : Addr),
 ((b192 &&
 false) =
 true →
 a134 =
 some
 p224 ∧
 (0 :
 Int) ≤
 n196 ∧
 n196 <
 (↑k135 :
 Int)) ∧
 ∃ (s225 :
 ByteArray),
 ((b192 &&
 false) =
 true →
 Reads
 Tryz.prog
 (Instr.loadAt
 (9 :
 Nat)
 (Value.pointer
 (some
 ((p224.add
 (n196.toNat *
 (2 :
 Nat))).add
 (1 :
 Nat)))))
 h199
 (Value.string
 s225)) ∧
 R
 (Value.bool
 false)
 h199)))
 (R (Value.bool false) h144))
 (∃ (b226 : Bool),
 (false = true →
 Reads Tryz.prog
 (Instr.loadAt (4 : Nat)
 (Value.pointer
 (some ((Addr.mk (Array.size h20) (0 : Nat) none).add (3 : Nat)))))
 h141 (Value.bool b226)) ∧
 R (Value.bool false) h141)))
 (HC Tryz.prog (18 : Nat) (Array.mk [Value.pointer none, Value.string (ByteArray.mk (Array.mk [(97 : UInt8)]))]) h20 fun (v227 : Value) (h228 : Heap) =>
 ∃ (s229 : ByteArray),
 ∃ (b230 : Bool),
 v227 = Value.tuple (Array.mk [Value.string s229, Value.bool b230]) ∧
 HC Tryz.prog (11 : Nat) (Array.mk [Value.pointer none, Value.string (ByteArray.mk (Array.mk [(116 : UInt8)]))]) h228
 fun (v231 : Value) (h232 : Heap) =>
 ∃ (a233 : Option Addr),
 ∃ (n234 : Int),
 v231 = Value.tuple (Array.mk [Value.pointer a233, Value.int IntKind.i64 n234]) ∧
 HC Tryz.prog (13 : Nat) (Array.mk [Value.pointer none, Value.slice none (0 : Nat) (0 : Nat)]) h232 fun (v235 : Value) (h236 : Heap) =>
 ∃ (n237 : Int),
 v235 = Value.int IntKind.i64 n237 ∧
 br (decide (n237 = (2 : Int)))
 (HC Tryz.prog (17 : Nat) (Array.mk [Value.pointer none]) h236 fun (v238 : Value) (h239 : Heap) =>
 ∃ (n240 : Int),
 v238 = Value.int IntKind.i64 n240 ∧
 br (n240 == (2 : Int) && !b230)
 (HC Tryz.prog (21 : Nat)
 (Array.mk [Value.pointer none, Value.string (ByteArray.mk (Array.mk [])), Value.int IntKind.i64 (1 : Int)]) h239
 fun (v241 : Value) (h242 : Heap) =>
 ∃ (a243 : Option Addr),
 ∃ (k244 : Nat),
 ∃ (k245 : Nat),
 v241 = Value.slice a243 k244 k245 ∧
 br (decide ((↑k244 : Int) = (0 : Int)))
 (HC Tryz.prog (16 : Nat) (Array.mk [Value.pointer none]) h242 fun (v246 : Value) (h247 : Heap) =>
 ∃ (n248 : Int),
 v246 = Value.int IntKind.i64 n248 ∧ R (Value.bool (n248 == (0 : Int) && n234 == (2 : Int))) h247)
 (R (Value.bool false) h242))
 (R (Value.bool false) h239))
 (R (Value.bool false) h236)))))) := by kernel_rfl
end Go.Proofs.YtkhinnchplahlaaGreatDoor
end

section
set_option linter.unusedVariables false
set_option maxRecDepth 100000
namespace Go.Proofs.YtkhinnchplahlaaGreatDoor
open Go Go.Vc Go.Proofs

theorem vcLmGet0 (k : ByteArray) (h : Heap) (R : Value → Heap → Prop) :
    vcF Tryz.prog Tryz.f18 65 [] [] [.pointer none, .string k] h R =
(∃ (b0 : Bool),
 Reads Tryz.prog (eqSem BinOp.eql (27 : Nat) (Operand.tmp (11 : Nat)) (Operand.const (Value.pointer none)) (Value.pointer none) (Value.pointer none)) h (Value.bool b0) ∧
 br b0 (R (Value.tuple (Array.mk [Value.string (ByteArray.mk (Array.mk [])), Value.bool false])) h)
 (∃ (p1 : Addr),
 none = some p1 ∧
 ∃ (a2 : Option Addr),
 ∃ (k3 : Nat),
 ∃ (k4 : Nat),
 Reads Tryz.prog (Instr.loadAt (32 : Nat) (Value.pointer (some (p1.add (3 : Nat))))) h (Value.slice a2 k3 k4) ∧
 ∃ (I5 : ByteArray → Bool → Int → Heap → Prop),
 ∃ (I6 : ByteArray → Bool → Int → Heap → Nat),
 I5 (ByteArray.mk (Array.mk [])) false (IntKind.i64.wrap ((↑k3 : Int) - (1 : Int))) h ∧
 ∀ (s7 : ByteArray) (b8 : Bool) (n9 : Int) (h10 : Heap),
 I5 s7 b8 n9 h10 →
 br (decide (n9 ≥ (0 : Int)))
 (∃ (p11 : Addr),
 none = some p11 ∧
 ∃ (a12 : Option Addr),
 ∃ (k13 : Nat),
 ∃ (k14 : Nat),
 Reads Tryz.prog (Instr.loadAt (32 : Nat) (Value.pointer (some (p11.add (3 : Nat))))) h10 (Value.slice a12 k13 k14) ∧
 ∃ (p15 : Addr),
 (a12 = some p15 ∧ (0 : Int) ≤ n9 ∧ n9 < (↑k13 : Int)) ∧
 ∃ (s16 : ByteArray),
 ∃ (s17 : ByteArray),
 ∃ (b18 : Bool),
 Reads Tryz.prog (Instr.loadAt (42 : Nat) (Value.pointer (some (p15.add (n9.toNat * (3 : Nat)))))) h10
 (Value.agg (Array.mk [Value.string s16, Value.string s17, Value.bool b18])) ∧
 SVC Tryz.prog
 (Instr.storeAt (42 : Nat) (Value.pointer (some (Addr.mk (Array.size h10) (0 : Nat) none)))
 (Value.agg (Array.mk [Value.string s16, Value.string s17, Value.bool b18])))
 (Array.push h10
 (Obj.cells (Array.mk [Value.string (ByteArray.mk (Array.mk [])), Value.string (ByteArray.mk (Array.mk [])), Value.bool false]) (42 : Nat)))
 fun (x19 : Unit) (h20 : Heap) =>
 ∃ (s21 : ByteArray),
 Reads Tryz.prog (Instr.loadAt (9 : Nat) (Value.pointer (some (Addr.mk (Array.size h10) (0 : Nat) none)))) h20 (Value.string s21) ∧
 br (s21.toList == k.toList)
 (∃ (s22 : ByteArray),
 ∃ (s23 : ByteArray),
 ∃ (b24 : Bool),
 Reads Tryz.prog (Instr.loadAt (42 : Nat) (Value.pointer (some (Addr.mk (Array.size h10) (0 : Nat) none)))) h20
 (Value.agg (Array.mk [Value.string s22, Value.string s23, Value.bool b24])) ∧
 HC Tryz.prog (47 : Nat) (Array.mk [Value.agg (Array.mk [Value.string s22, Value.string s23, Value.bool b24])]) h20
 fun (v25 : Value) (h26 : Heap) =>
 ∃ (s27 : ByteArray),
 ∃ (b28 : Bool),
 v25 = Value.tuple (Array.mk [Value.string s27, Value.bool b28]) ∧
 R (Value.tuple (Array.mk [Value.string s27, Value.bool b28])) h26)
 (I5 s7 b8 (IntKind.i64.wrap (n9 - (1 : Int))) h20 ∧ I6 s7 b8 (IntKind.i64.wrap (n9 - (1 : Int))) h20 < I6 s7 b8 n9 h10))
 (∃ (p29 : Addr),
 none = some p29 ∧
 ∃ (a30 : Option Addr),
 ∃ (k31 : Nat),
 ∃ (k32 : Nat),
 Reads Tryz.prog (Instr.loadAt (80 : Nat) (Value.pointer (some (p29.add (5 : Nat))))) h10 (Value.slice a30 k31 k32) ∧
 ∃ (I33 : ByteArray → Bool → Int → Heap → Prop),
 ∃ (I34 : ByteArray → Bool → Int → Heap → Nat),
 I33 s7 b8 (IntKind.i64.wrap ((↑k31 : Int) - (1 : Int))) h10 ∧
 ∀ (s35 : ByteArray) (b36 : Bool) (n37 : Int) (h38 : Heap),
 I33 s35 b36 n37 h38 →
 br (decide (n37 ≥ (0 : Int)))
 (∃ (p39 : Addr),
 none = some p39 ∧
 ∃ (a40 : Option Addr),
 ∃ (k41 : Nat),
 ∃ (k42 : Nat),
 Reads Tryz.prog (Instr.loadAt (80 : Nat) (Value.pointer (some (p39.add (5 : Nat))))) h38 (Value.slice a40 k41 k42) ∧
 ∃ (p43 : Addr),
 (a40 = some p43 ∧ (0 : Int) ≤ n37 ∧ n37 < (↑k41 : Int)) ∧
 ∃ (a44 : Option Addr),
 Reads Tryz.prog (Instr.loadAt (95 : Nat) (Value.pointer (some (p43.add (n37.toNat * (1 : Nat)))))) h38 (Value.pointer a44) ∧
 HC Tryz.prog (48 : Nat) (Array.mk [Value.pointer a44, Value.string k]) h38 fun (v45 : Value) (h46 : Heap) =>
 ∃ (s47 : ByteArray),
 ∃ (s48 : ByteArray),
 ∃ (b49 : Bool),
 ∃ (b50 : Bool),
 v45 =
 Value.tuple
 (Array.mk [Value.agg (Array.mk [Value.string s47, Value.string s48, Value.bool b49]), Value.bool b50]) ∧
 SVC Tryz.prog
 (Instr.storeAt (42 : Nat) (Value.pointer (some (Addr.mk (Array.size h46) (0 : Nat) none)))
 (Value.agg (Array.mk [Value.string s47, Value.string s48, Value.bool b49])))
 (Array.push h46
 (Obj.cells
 (Array.mk
 [Value.string (ByteArray.mk (Array.mk [])), Value.string (ByteArray.mk (Array.mk [])), Value.bool false])
 (42 : Nat)))
 fun (x51 : Unit) (h52 : Heap) =>
 br b50
 (∃ (s53 : ByteArray),
 ∃ (s54 : ByteArray),
 ∃ (b55 : Bool),
 Reads Tryz.prog
 (Instr.loadAt (42 : Nat) (Value.pointer (some (Addr.mk (Array.size h46) (0 : Nat) none)))) h52
 (Value.agg (Array.mk [Value.string s53, Value.string s54, Value.bool b55])) ∧
 HC Tryz.prog (47 : Nat)
 (Array.mk [Value.agg (Array.mk [Value.string s53, Value.string s54, Value.bool b55])]) h52
 fun (v56 : Value) (h57 : Heap) =>
 ∃ (s58 : ByteArray),
 ∃ (b59 : Bool),
 v56 = Value.tuple (Array.mk [Value.string s58, Value.bool b59]) ∧
 R (Value.tuple (Array.mk [Value.string s58, Value.bool b59])) h57)
 (I33 s35 b36 (IntKind.i64.wrap (n37 - (1 : Int))) h52 ∧
 I34 s35 b36 (IntKind.i64.wrap (n37 - (1 : Int))) h52 < I34 s35 b36 n37 h38))
 (R (Value.tuple (Array.mk [Value.string (ByteArray.mk (Array.mk [])), Value.bool false])) h38)))) := by kernel_rfl

theorem vcLmApply0 (h : Heap) (R : Value → Heap → Prop) :
    vcF Tryz.prog Tryz.f13 73 [] [] [.pointer none, .slice none 0 0] h R =
(∃ (b0 : Bool),
 Reads Tryz.prog (eqSem BinOp.eql (27 : Nat) (Operand.tmp (8 : Nat)) (Operand.const (Value.pointer none)) (Value.pointer none) (Value.pointer none)) h (Value.bool b0) ∧
 br b0 (R (Value.int IntKind.i64 (2 : Int)) h)
 (HC Tryz.prog (40 : Nat) (Array.mk [Value.slice none (0 : Nat) (0 : Nat), Value.func (Fn.func (39 : Nat)) (Array.mk []) (Array.mk [])]) h fun (v1 : Value) (h2 : Heap) =>
 ∃ (b3 : Bool), v1 = Value.bool b3 ∧ br b3 (R (Value.int IntKind.i64 (3 : Int)) h2) (R (Value.int IntKind.i64 (0 : Int)) h2))) := by kernel_rfl

theorem vcLmSync0 (h : Heap) (R : Value → Heap → Prop) :
    vcF Tryz.prog Tryz.f17 10 [] [] [.pointer none] h R =
(∃ (b0 : Bool),
 Reads Tryz.prog (eqSem BinOp.eql (27 : Nat) (Operand.tmp (3 : Nat)) (Operand.const (Value.pointer none)) (Value.pointer none) (Value.pointer none)) h (Value.bool b0) ∧
 br b0 (R (Value.int IntKind.i64 (2 : Int)) h)
 (∃ (p1 : Addr),
 none = some p1 ∧
 ∃ (a2 : Option Addr),
 Reads Tryz.prog (Instr.loadAt (78 : Nat) (Value.pointer (some (p1.add (2 : Nat))))) h (Value.pointer a2) ∧
 HC Tryz.prog (46 : Nat) (Array.mk [Value.pointer a2]) h fun (v3 : Value) (h4 : Heap) => ∃ (n5 : Int), v3 = Value.int IntKind.i64 n5 ∧ R (Value.int IntKind.i64 n5) h4)) := by kernel_rfl

theorem vcLmScan0 (k : ByteArray) (n : Int) (h : Heap) (R : Value → Heap → Prop) :
    vcF Tryz.prog Tryz.f21 53 [] [] [.pointer none, .string k, .int .i64 n] h R =
(∃ (b0 : Bool),
 Reads Tryz.prog (eqSem BinOp.eql (27 : Nat) (Operand.tmp (11 : Nat)) (Operand.const (Value.pointer none)) (Value.pointer none) (Value.pointer none)) h (Value.bool b0) ∧
 br b0 (R (Value.slice none (0 : Nat) (0 : Nat)) h)
 (∃ (I1 : Heap → Prop),
 I1 h ∧
 ∃ (p2 : Addr),
 none = some p2 ∧
 ∃ (a3 : Option Addr),
 ∃ (k4 : Nat),
 ∃ (k5 : Nat),
 Reads Tryz.prog (Instr.loadAt (80 : Nat) (Value.pointer (some (p2.add (5 : Nat))))) h (Value.slice a3 k4 k5) ∧
 HC Tryz.prog (50 : Nat) (Array.mk [Value.slice a3 k4 k5]) h fun (v6 : Value) (h7 : Heap) =>
 ∃ (a8 : Option Addr),
 ∃ (k9 : Nat),
 ∃ (k10 : Nat),
 v6 = Value.slice a8 k9 k10 ∧
 I1 h7 ∧
 ∃ (p11 : Addr),
 none = some p11 ∧
 ∃ (a12 : Option Addr),
 ∃ (k13 : Nat),
 ∃ (k14 : Nat),
 (∀ (h15 : Heap), I1 h15 → Reads Tryz.prog (Instr.loadAt (32 : Nat) (Value.pointer (some (p11.add (3 : Nat))))) h15 (Value.slice a12 k13 k14)) ∧
 HC Tryz.prog (51 : Nat) (Array.mk [Value.slice a12 k13 k14]) h7 fun (v16 : Value) (h17 : Heap) =>
 ∃ (a18 : Option Addr),
 v16 = Value.pointer a18 ∧
 SVC Tryz.prog (Instr.buildSlice (80 : Nat) (1 : Nat) (Array.mk [((0 : Nat), Value.pointer a18)])) h17 fun (v19 : Value) (h20 : Heap) =>
 ∃ (a21 : Option Addr),
 ∃ (k22 : Nat),
 ∃ (k23 : Nat),
 v19 = Value.slice a21 k22 k23 ∧
 SVC Tryz.prog (Builtin.append_ (Array.mk [(80 : Nat), (80 : Nat)]) (80 : Nat) (Array.mk [Value.slice a8 k9 k10, Value.slice a21 k22 k23]))
 h20 fun (v24 : Value) (h25 : Heap) =>
 ∃ (a26 : Option Addr),
 ∃ (k27 : Nat),
 ∃ (k28 : Nat),
 v24 = Value.slice a26 k27 k28 ∧
 HC Tryz.prog (49 : Nat) (Array.mk [Value.bool true, Value.slice a26 k27 k28]) h25 fun (v29 : Value) (h30 : Heap) =>
 ∃ (a31 : Option Addr),
 v29 = Value.pointer a31 ∧
 HC Tryz.prog (52 : Nat) (Array.mk [Value.pointer a31]) h30 fun (v32 : Value) (h33 : Heap) =>
 ∃ (a34 : Option Addr),
 ∃ (k35 : Nat),
 ∃ (k36 : Nat),
 v32 = Value.slice a34 k35 k36 ∧
 ∃ (I37 : Option Addr → Nat → Nat → Int → Heap → Prop),
 ∃ (I38 : Option Addr → Nat → Nat → Int → Heap → Nat),
 I37 none (0 : Nat) (0 : Nat) (0 : Int) h33 ∧
 ∀ (a39 : Option Addr) (k40 k41 : Nat) (n42 : Int) (h43 : Heap),
 I37 a39 k40 k41 n42 h43 →
 br (decide (n42 < (↑k35 : Int)))
 (∃ (p44 : Addr),
 (a34 = some p44 ∧ (0 : Int) ≤ n42 ∧ n42 < (↑k35 : Int)) ∧
 ∃ (s45 : ByteArray),
 ∃ (s46 : ByteArray),
 ∃ (b47 : Bool),
 Reads Tryz.prog
 (Instr.loadAt (42 : Nat) (Value.pointer (some (p44.add (n42.toNat * (3 : Nat)))))) h43
 (Value.agg (Array.mk [Value.string s45, Value.string s46, Value.bool b47])) ∧
 SVC Tryz.prog
 (Instr.storeAt (42 : Nat)
 (Value.pointer (some (Addr.mk (Array.size h43) (0 : Nat) none)))
 (Value.agg (Array.mk [Value.string s45, Value.string s46, Value.bool b47])))
 (Array.push h43
 (Obj.cells
 (Array.mk
 [Value.string (ByteArray.mk (Array.mk [])),
 Value.string (ByteArray.mk (Array.mk [])), Value.bool false])
 (42 : Nat)))
 fun (x48 : Unit) (h49 : Heap) =>
 ∃ (s50 : ByteArray),
 Reads Tryz.prog
 (Instr.loadAt (9 : Nat)
 (Value.pointer (some (Addr.mk (Array.size h43) (0 : Nat) none))))
 h49 (Value.string s50) ∧
 br (!Op.bytesLess s50.toList k.toList && decide ((↑k40 : Int) < n))
 (∃ (s51 : ByteArray),
 Reads Tryz.prog
 (Instr.loadAt (9 : Nat)
 (Value.pointer (some (Addr.mk (Array.size h43) (0 : Nat) none))))
 h49 (Value.string s51) ∧
 ∃ (s52 : ByteArray),
 Reads Tryz.prog
 (Instr.loadAt (9 : Nat)
 (Value.pointer
 (some ((Addr.mk (Array.size h43) (0 : Nat) none).add (1 : Nat)))))
 h49 (Value.string s52) ∧
 SVC Tryz.prog
 (Instr.buildSlice (31 : Nat) (1 : Nat)
 (Array.mk
 [((0 : Nat),
 Value.agg (Array.mk [Value.string s51, Value.string s52]))]))
 h49 fun (v53 : Value) (h54 : Heap) =>
 ∃ (a55 : Option Addr),
 ∃ (k56 : Nat),
 ∃ (k57 : Nat),
 v53 = Value.slice a55 k56 k57 ∧
 SVC Tryz.prog
 (Builtin.append_ (Array.mk [(31 : Nat), (31 : Nat)])
 (31 : Nat)
 (Array.mk
 [Value.slice a39 k40 k41, Value.slice a55 k56 k57]))
 h54 fun (v58 : Value) (h59 : Heap) =>
 ∃ (a60 : Option Addr),
 ∃ (k61 : Nat),
 ∃ (k62 : Nat),
 v58 = Value.slice a60 k61 k62 ∧
 I37 a60 k61 k62 (IntKind.i64.wrap (n42 + (1 : Int)))
 h59 ∧
 I38 a60 k61 k62
 (IntKind.i64.wrap (n42 + (1 : Int))) h59 <
 I38 a39 k40 k41 n42 h43)
 (I37 a39 k40 k41 (IntKind.i64.wrap (n42 + (1 : Int))) h49 ∧
 I38 a39 k40 k41 (IntKind.i64.wrap (n42 + (1 : Int))) h49 <
 I38 a39 k40 k41 n42 h43))
 (R (Value.slice a39 k40 k41) h43))) := by kernel_rfl

theorem vcLmTables0 (h : Heap) (R : Value → Heap → Prop) :
    vcF Tryz.prog Tryz.f16 10 [] [] [.pointer none] h R =
(∃ (b0 : Bool),
 Reads Tryz.prog (eqSem BinOp.eql (27 : Nat) (Operand.tmp (3 : Nat)) (Operand.const (Value.pointer none)) (Value.pointer none) (Value.pointer none)) h (Value.bool b0) ∧
 br b0 (R (Value.int IntKind.i64 (0 : Int)) h)
 (∃ (p1 : Addr),
 none = some p1 ∧
 ∃ (a2 : Option Addr),
 ∃ (k3 : Nat), ∃ (k4 : Nat), Reads Tryz.prog (Instr.loadAt (80 : Nat) (Value.pointer (some (p1.add (5 : Nat))))) h (Value.slice a2 k3 k4) ∧ R (Value.int IntKind.i64 (↑k3 : Int)) h)) := by kernel_rfl
end Go.Proofs.YtkhinnchplahlaaGreatDoor
end

section
set_option linter.unusedVariables false
set_option linter.unusedSimpArgs false
set_option maxRecDepth 100000
namespace Go.Proofs.YtkhinnchplahlaaGreatDoor
open Go Go.Vc Go.Proofs Go.Dk Go.Kv Go.Ls Go.Cd
open Go.Pg (Quiet Nx layW partB nparts partsW partsW_len)

theorem scan_snoc (l : Ps Str) (x : Str × Str) (k : Str) (n : Int) {m : Nat} (hm : (Kv.scan l k n).length = m) :
    Kv.scan (l ++ [x]) k n = if (!Op.bytesLess x.1.toList k.toList && decide ((m : Int) < n)) = true then Kv.scan l k n ++ [x] else Kv.scan l k n := by
  have hlen : (Kv.scan l k n).length = min n.toNat (l.filter fun p => !lt p.1 k).length := by unfold Kv.scan; rw [List.length_take]
  rw [hm] at hlen
  unfold Kv.scan
  rw [List.filter_append]
  generalize l.filter (fun p => !lt p.1 k) = F at hlen ⊢
  have hsing : [x].filter (fun p => !lt p.1 k) = if (!Op.bytesLess x.1.toList k.toList) = true then [x] else [] := by
    rw [List.filter_cons]
    rfl
  rw [hsing]
  cases hb : (!Op.bytesLess x.1.toList k.toList) with
  | false => simp
  | true =>
    simp only [Bool.true_and, if_true]
    by_cases hlt : (m : Int) < n
    · rw [if_pos (decide_eq_true hlt)]
      have : F.length < n.toNat := by omega
      rw [List.take_of_length_le (by rw [List.length_append]; simp; omega), List.take_of_length_le (by omega)]
    · rw [if_neg (by simp [hlt])]
      rw [List.take_append_of_le_length (by omega)]
theorem scan_len (P : Ps Str) (k : Str) (n : Int) : (Kv.scan P k n).length ≤ P.length := by
  unfold Kv.scan
  rw [List.length_take]
  have := List.length_filter_le (fun p : Str × Str => !lt p.1 k) P
  omega
section
variable {h : Heap} {A : Option Addr} {n cc : Nat} {P : Ps Str}
theorem scan08_spec (hs : Sl StrPairE h A n P) (hn : n ≤ 900000) (k : Str) (m : Int) : HC Tryz.prog 22 #[.slice A n cc, .string k, .int .i64 m] h fun v h' => Keep h.size h h' ∧
    ∃ a c, v = .slice a (Kv.scan P k m).length c ∧ Sl StrPairE h' a (Kv.scan P k m).length (Kv.scan P k m) := by
  have hl := hs.1
  refine HC_of_vc (args := [.slice A n cc, .string k, .int .i64 m]) (base := 32) (cuts := []) (bigs := []) kM Tryz.func22 ?_
  rw [vc08Scan]
  refine ⟨fun a k' c' n5 G => ∃ j : Nat, n5 = j ∧ j ≤ P.length ∧ Keep h.size h G ∧ Vc.Own StrPairE 53 h.size G a k' c' (Kv.scan (P.take j) k m), fun _ _ _ n5 _ => P.length - n5.toNat,
    ⟨0, rfl, Nat.zero_le _, Keep.refl _ _, by have : Kv.scan ([] : Ps Str) k m = [] := by simp [Kv.scan]
                                              rw [List.take_zero, this]; exact Vc.Own.nil _ _ _⟩, ?_⟩
  rintro a2 k3 k4 n5 G ⟨j, rfl, hj, kG, oG⟩
  have hk3 := oG.1
  have hsl := scan_len (P.take j) k m
  rw [List.length_take] at hsl
  have zG := kG.size
  refine br_intro (fun e => ?_) fun e => ?_
  · have e := of_decide_eq_true e
    have hjl : j < P.length := by omega
    have hq : P[j]? = some (P[j]'hjl) := List.getElem?_eq_getElem hjl
    have htk : P.take (j + 1) = P.take j ++ [P[j]'hjl] := List.take_succ_eq_append_getElem hjl
    generalize P[j]'hjl = x at hq htk
    obtain ⟨p7, ea, rd⟩ := pr_at (hs.keep kG) hq
    refine ⟨p7, ⟨ea, by omega, e⟩, _, _, by rw [Int.toNat_natCast]; exact rd, svc_pr (w := x) rfl ?_⟩
    have bx := push_at G (prBox x)
    have kx := keep_push G (prBox x)
    have zx : (G.push (prBox x)).size = G.size + 1 := by simp
    generalize G.push (prBox x) = G2 at bx kx zx
    have o2 : Vc.Own StrPairE 53 h.size G2 a2 k3 k4 (Kv.scan (P.take j) k m) := oG.upd (kx.upd fun _ => False) fun _ _ h => h
    have kk := kG.trans (kx.mono zG)
    have hscan := scan_snoc (P.take j) x k m hk3
    rw [← htk] at hscan
    rw [wrap_i64 (by omega) (by omega)]
    refine ⟨_, pr_k bx, br_intro (fun e2 => ?_) fun e2 => ?_⟩
    · rw [if_pos e2] at hscan
      refine ⟨_, _, pr_all bx, svc_append1 (x := x) app_pr o2 (by omega) (bs_pr x) (by show (4 * (k3 + 1) + 192) * 32 ≤ 2 ^ 48; omega) fun a' c' h' o' u' b' => ?_⟩
      refine ⟨⟨j + 1, rfl, hjl, kk.trans (u'.keep (by omega) fun q hq => (oG.block q hq).1), ?_⟩, by dsimp only; omega⟩
      rw [hscan]; exact o'
    · rw [if_neg (by rw [e2]; decide)] at hscan
      refine ⟨⟨j + 1, rfl, hjl, kk, ?_⟩, by dsimp only; omega⟩
      rw [hscan]; exact o2
  · have e := of_decide_eq_false e
    have hjn : j = P.length := by omega
    subst hjn
    rw [List.take_length] at oG hk3
    refine ⟨kG, a2, k4, by rw [hk3], ?_⟩
    have := oG.sl
    rw [← hk3] at this; exact this
theorem tget0_spec (k : Str) : HC Tryz.prog 18 #[.pointer none, .string k] h fun v h' => h' = h ∧ v = .tuple #[.string ⟨#[]⟩, .bool false] := by
  refine HC_of_vc (args := [.pointer none, .string k]) (base := 65) (cuts := []) (bigs := []) kM Tryz.func18 ?_
  rw [vcLmGet0]
  exact ⟨_, reads_eql_nil uTr, br_intro (fun _ => ⟨rfl, rfl⟩) fun e => by cases e⟩
theorem tapply0_spec : HC Tryz.prog 13 #[.pointer none, .slice none 0 0] h fun v h' => h' = h ∧ v = .int .i64 2 := by
  refine HC_of_vc (args := [.pointer none, .slice none 0 0]) (base := 73) (cuts := []) (bigs := []) kM Tryz.func13 ?_
  rw [vcLmApply0]
  exact ⟨_, reads_eql_nil uTr, br_intro (fun _ => ⟨rfl, rfl⟩) fun e => by cases e⟩
theorem tsync0_spec : HC Tryz.prog 17 #[.pointer none] h fun v h' => h' = h ∧ v = .int .i64 2 := by
  refine HC_of_vc (args := [.pointer none]) (base := 10) (cuts := []) (bigs := []) kM Tryz.func17 ?_
  rw [vcLmSync0]
  exact ⟨_, reads_eql_nil uTr, br_intro (fun _ => ⟨rfl, rfl⟩) fun e => by cases e⟩
theorem tscan0_spec (k : Str) (n : Int) : HC Tryz.prog 21 #[.pointer none, .string k, .int .i64 n] h fun v h' => h' = h ∧ v = .slice none 0 0 := by
  refine HC_of_vc (args := [.pointer none, .string k, .int .i64 n]) (base := 53) (cuts := []) (bigs := []) kM Tryz.func21 ?_
  rw [vcLmScan0]
  exact ⟨_, reads_eql_nil uTr, br_intro (fun _ => ⟨rfl, rfl⟩) fun e => by cases e⟩
theorem ttables0_spec : HC Tryz.prog 16 #[.pointer none] h fun v h' => h' = h ∧ v = .int .i64 0 := by
  refine HC_of_vc (args := [.pointer none]) (base := 10) (cuts := []) (bigs := []) kM Tryz.func16 ?_
  rw [vcLmTables0]
  exact ⟨_, reads_eql_nil uTr, br_intro (fun _ => ⟨rfl, rfl⟩) fun e => by cases e⟩
theorem topen0_spec (s : Str) : HC Tryz.prog 11 #[.pointer none, .string s] h fun v h' => h' = h ∧ v = .tuple #[.pointer none, .int .i64 2] := by
  refine HC_of_vc (args := [.pointer none, .string s]) (base := 86) (cuts := []) (bigs := []) kM Tryz.func11 ?_
  rw [vcLmOpen0]
  exact ⟨_, reads_eql_nil undD, br_intro (fun _ => ⟨rfl, rfl⟩) fun e => by cases e⟩
end
theorem reads_neq_bool {x y : Operand} {a b : Bool} {h : Heap} : Reads Tryz.prog (eqSem BinOp.neq 4 x y (.bool a) (.bool b)) h (.bool (!(a == b))) :=
  ⟨fun w _ => by simp [eqSem, eqGuard, run_neq_bool w 4 a b uB]⟩
/-- what is asked of a tree, and of the document. -/
def AskP (bx t : Nat) (a : Option Addr) (k c : Nat) (F K : Heap → Prop) (H : Heap) : Prop :=
  (∃ (s90 : ByteArray), Reads Tryz.prog (Instr.loadAt 9 (Value.pointer (some ((Addr.mk (bx) (0 : Nat) none).add (1 : Nat))))) H (Value.string s90) ∧ HC Tryz.prog 18 (Array.mk [Value.pointer (some ⟨t, 0, none⟩), Value.string s90]) H fun (v91 : Value) (h92 : Heap) => ∃ (s93 : ByteArray), ∃ (b94 : Bool), v91 = Value.tuple (Array.mk [Value.string s93, Value.bool b94]) ∧ ∃ (s95 : ByteArray), Reads Tryz.prog (Instr.loadAt 9 (Value.pointer (some ((Addr.mk (bx) (0 : Nat) none).add (1 : Nat))))) h92 (Value.string s95) ∧ HC Tryz.prog 19 (Array.mk [Value.slice a k c, Value.string s95]) h92 fun (v96 : Value) (h97 : Heap) => ∃ (n98 : Int), v96 = Value.int IntKind.i64 n98 ∧ ∃ (I99 : Heap → Prop), I99 h97 ∧ HC Tryz.prog 15 (Array.mk [Value.pointer (some ⟨t, 0, none⟩), Value.slice a k c]) h97 fun (v100 : Value) (h101 : Heap) => ∃ (b102 : Bool), v100 = Value.bool b102 ∧ I99 h101 ∧ ∃ (s103 : ByteArray), ((!!b102) = true → Reads Tryz.prog (Instr.loadAt 9 (Value.pointer (some ((Addr.mk (bx) (0 : Nat) none).add (1 : Nat))))) h101 (Value.string s103)) ∧ ∃ (n104 : Int), ((!!b102) = true → Reads Tryz.prog (Instr.loadAt 3 (Value.pointer (some ((Addr.mk (bx) (0 : Nat) none).add (2 : Nat))))) h101 (Value.int IntKind.i64 n104)) ∧ br (bif bif b102 then false else true then false else true) (HC Tryz.prog 21 (Array.mk [Value.pointer (some ⟨t, 0, none⟩), Value.string s103, Value.int IntKind.i64 n104]) h101 fun (v105 : Value) (h106 : Heap) => ∃ (a107 : Option Addr), ∃ (k108 : Nat), ∃ (k109 : Nat), v105 = Value.slice a107 k108 k109 ∧ I99 h106 ∧ ∃ (s110 : ByteArray), (true = true → ∀ (h111 : Heap), I99 h111 → Reads Tryz.prog (Instr.loadAt 9 (Value.pointer (some ((Addr.mk (bx) (0 : Nat) none).add (1 : Nat))))) h111 (Value.string s110)) ∧ ∃ (n112 : Int), (true = true → ∀ (h113 : Heap), I99 h113 → Reads Tryz.prog (Instr.loadAt 3 (Value.pointer (some ((Addr.mk (bx) (0 : Nat) none).add (2 : Nat))))) h113 (Value.int IntKind.i64 n112)) ∧ HC Tryz.prog 22 (Array.mk [Value.slice a k c, Value.string s110, Value.int IntKind.i64 n112]) h106 fun (v114 : Value) (h115 : Heap) => ∃ (a116 : Option Addr), ∃ (k117 : Nat), ∃ (k118 : Nat), v114 = Value.slice a116 k117 k118 ∧ HC Tryz.prog 20 (Array.mk [Value.slice a107 k108 k109, Value.slice a116 k117 k118]) h115 fun (v119 : Value) (h120 : Heap) => ∃ (b121 : Bool), v119 = Value.bool b121 ∧ ∃ (b122 : Bool), ((!!b121) = true → Reads Tryz.prog (eqSem BinOp.neq 4 (Operand.tmp (93 : Nat)) (Operand.tmp (95 : Nat)) (Value.bool b94) (Value.bool (decide (n98 ≥ (0 : Int))))) h120 (Value.bool b122)) ∧ ∃ (p123 : Addr), ((b94 && !(!b121 || b122)) = true → a = some p123 ∧ (0 : Int) ≤ n98 ∧ n98 < (↑k : Int)) ∧ ∃ (s124 : ByteArray), ((b94 && !(!b121 || b122)) = true → Reads Tryz.prog (Instr.loadAt 9 (Value.pointer (some ((p123.add (n98.toNat * (2 : Nat))).add (1 : Nat))))) h120 (Value.string s124)) ∧ br (!b121 || b122 || b94 && !s93.toList == s124.toList || !b94 && !s93.toList == []) (F h120) (K h120)) (∃ (b125 : Bool), (false = true → Reads Tryz.prog (eqSem BinOp.neq 4 (Operand.tmp (93 : Nat)) (Operand.tmp (95 : Nat)) (Value.bool b94) (Value.bool (decide (n98 ≥ (0 : Int))))) h101 (Value.bool b125)) ∧ ∃ (p126 : Addr), ((b94 && false) = true → a = some p126 ∧ (0 : Int) ≤ n98 ∧ n98 < (↑k : Int)) ∧ ∃ (s127 : ByteArray), ((b94 && false) = true → Reads Tryz.prog (Instr.loadAt 9 (Value.pointer (some ((p126.add (n98.toNat * (2 : Nat))).add (1 : Nat))))) h101 (Value.string s127)) ∧ F h101))
section
variable {bx t d k c : Nat} {a : Option Addr} {H : Heap} {F K : Heap → Prop} {y : Sp} {T : TS} {g : Nat → Nat} {nm : Str}
theorem asks_spec (p : TrAt g H t d nm (tw T)) (hT : ∀ U ∈ T.tabs, Tab U) (hsum : T.tabs.flatten.length + T.mem.length ≤ 900000) (hnt : T.tabs.length ≤ 900000) (hs : Sl StrPairE H a k T.pairs) (hb : H[bx]? = some (spBox y)) (hK : ∀ G, Keep H.size H G → K G) : AskP bx t a k c F K H := by
  have hpl := pairs_len T
  have hl := hs.1
  have hbl := at_lt hb
  have bat : ∀ {G : Heap}, Keep H.size H G → G[bx]? = some (spBox y) := fun kG => kG.at hb hbl
  unfold AskP
  refine ⟨_, sp_from hb, (lget_spec p hT (by show T.tabs.flatten.length ≤ _; omega) (by show T.tabs.length ≤ _; omega) (by show T.mem.length ≤ _; omega) y.from_).mono ?_⟩
  rintro v h92 ⟨k92, rfl⟩
  refine ⟨_, _, rfl, _, sp_from (bat k92), (get08_spec (hs.keep k92) (by omega) y.from_).mono ?_⟩
  rintro v h97 ⟨k97, i, rfl, hi⟩
  have kk97 := k92.trans (k97.mono k92.size)
  refine ⟨_, rfl, fun G => Keep H.size H G, kk97, (lhas_spec (p.keep kk97) hT hsum hnt (hs.keep kk97)).mono ?_⟩
  rintro v h101 ⟨k101, rfl⟩
  have kk101 := kk97.trans (k101.mono kk97.size)
  refine ⟨_, rfl, kk101, _, fun _ => sp_from (bat kk101), _, fun _ => sp_n (bat kk101), br_intro (fun _ => (lscan_spec (p.keep kk101) hsum hnt y.from_ y.n).mono ?_) fun e => by cases e⟩
  rintro v h106 ⟨k106, a107, c109, rfl, s107, _⟩
  have kk106 := kk101.trans (k106.mono kk101.size)
  refine ⟨_, _, _, rfl, kk106, _, fun _ G kG => sp_from (bat kG), _, fun _ G kG => sp_n (bat kG), (scan08_spec (hs.keep kk106) (by omega) y.from_ y.n).mono ?_⟩
  rintro v h115 ⟨k115, a116, c118, rfl, s116⟩
  have kk115 := kk106.trans (k115.mono kk106.size)
  have s107' : Sl StrPairE h115 a107 (Kv.scan T.pairs y.from_ y.n).length (Kv.scan T.pairs y.from_ y.n) := Sl.keep (h := h106) s107 k115
  have hsl := scan_len T.pairs y.from_ y.n
  refine ⟨_, _, _, rfl, (same08_spec s107' s116 (by omega)).mono ?_⟩
  rintro v h120 ⟨rfl, rfl⟩
  have hg : mGet (doneAll [] ((tw T).tabs.flatten ++ (tw T).mem)) y.from_ = mGet T.pairs y.from_ := rfl
  rw [hg]
  rcases hi with ⟨rfl, hn⟩ | ⟨j, x, rfl, hq, hsome⟩
  · rw [hn]
    refine ⟨_, rfl, _, fun _ => reads_neq_bool, ⟨0, 0, none⟩, fun e => by simp at e, ⟨#[]⟩, fun e => by simp at e, br_intro (fun e => by simp at e) fun _ => hK _ kk115⟩
  · rw [hsome]
    obtain ⟨p, ea, hp⟩ := (hs.keep kk115).get hq
    have hjl : j < T.pairs.length := (List.getElem?_eq_some_iff.1 hq).1
    have hd : decide (((j : Nat) : Int) ≥ 0) = true := decide_eq_true (by omega)
    rw [hd]
    refine ⟨_, rfl, _, fun _ => reads_neq_bool, p, fun _ => ⟨ea, by omega, by omega⟩, x, fun _ => ?_, br_intro (fun e => by simp at e) fun _ => hK _ kk115⟩
    rw [Int.toNat_natCast]
    exact reads_load kS (by rw [Addr.add_add]; exact hp 1 _ rfl)
end
section
variable {B t d j u : Nat} {h0 G : Heap} {nm : Str} {g : Nat → Nat} {N : Nat → Prop} {x : D} {T : TS}
theorem One.sync (o : One B h0 t d nm j u G g N x T) (hgb : gb < B) (hj : j ≤ 700) : HC Tryz.prog 17 #[.pointer (some ⟨t, 0, none⟩)] G fun v h' =>
    v = .int .i64 0 ∧ One B h0 t d nm j u h' g N (syncX nm x) T ∧ UpdM (fun q => ¬ N q) G h' ∧ (syncX nm x).room = x.room ∧ (syncX nm x).now = x.now := by
  refine (tsync_spec o.tr o.dn o.gN o.q (by have := o.wt; omega)).mono ?_
  rintro v h' ⟨rfl, dn, tr, up, q, now, room, wts⟩
  refine ⟨rfl, ⟨tr, dn, o.gN, o.old, by rw [now]; exact o.tf, q, o.few, by rw [room]; exact o.room, Nat.le_trans wts o.wt, fun f hf => o.fo f (by rw [now] at hf; exact hf), ?_, o.tab.updM up fun h => h (o.old gb hgb).1⟩, up, room, now⟩
  refine o.up.trans' up fun q hq h3 => ?_
  show B ≤ q
  by_cases hq2 : q < B
  · exact absurd (o.old q hq2).1 h3
  · omega
theorem One.applyL {A : Option Addr} {n c : Nat} {l : List Wr} (o : One B h0 t d nm j u G g N x T) (hnm : nm.size ≤ 1000000) (hgb : gb < B) (hj : j ≤ 700) (hs : Sl WrE G A n l) (hc : n ≤ c) (hn : n ≤ 9223372036854775807) (hA : n ≠ 0 → ∀ q, blk A q → N q ∧ g q = 0) (hl : long l = true) :
    HC Tryz.prog 13 #[.pointer (some ⟨t, 0, none⟩), .slice A n c] G fun v h' => v = .int .i64 3 ∧ Keep G.size G h' := by
  have hw := o.wt
  have hr := o.room
  refine (lapply_spec o.tr hnm o.tab (o.old gb hgb) o.dn o.gN o.tf o.q o.few (fun h => by rw [hl] at h; cases h) hs hc hn hA (by omega) (by omega)).mono ?_
  rintro v h' hv
  rcases hv with ⟨_, rfl, k⟩ | ⟨h0, _⟩ | ⟨h0, _⟩ | ⟨h0, _⟩
  · exact ⟨rfl, k⟩
  all_goals rw [hl] at h0; cases h0
theorem One.rest {y : Sp} {bx k c : Nat} {a : Option Addr} {F K : Heap → Prop} (o : One B h0 t d nm j u G g N x T) (hgb : gb < B) (hj : j ≤ 700) (hu : u ≤ 1100) (htab : T.tabs.length ≤ 3) (hb : G[bx]? = some (spBox y)) (hbN : N bx)
    (sl : Sl StrPairE G a k T.pairs) (oa : ∀ q, blk a q → N q ∧ g q = 0)
    (hK : ∀ G' N' x', One B h0 t d nm j u G' g N' x' T → Sl StrPairE G' a k T.pairs → (∀ q, blk a q → N' q ∧ g q = 0) → x'.room = x.room → tot x'.now = tot x.now → K G') :
    HC Tryz.prog 16 #[.pointer (some ⟨t, 0, none⟩)] G fun v45 h46 => ∃ n47 : Int, v45 = .int .i64 n47 ∧ ∃ b48 : Bool, ((!decide (n47 > 4)) = true → Reads Tryz.prog (Instr.loadAt 4 (.pointer (some ((⟨bx, 0, none⟩ : Addr).add 3)))) h46 (.bool b48)) ∧
      br (bif decide (n47 > 4) then false else true) (br b48 (HC Tryz.prog 17 #[.pointer (some ⟨t, 0, none⟩)] h46 fun v49 h50 => ∃ n51 : Int, v49 = .int .i64 n51 ∧ br (n51 != 0) (F h50) (AskP bx t a k c F K h50)) (AskP bx t a k c F K h46)) (F h46) := by
  obtain ⟨b1, b2, b3, b4, b5, b6, b7, b8⟩ := o.bounds hu
  refine (tables_spec o.tr).mono ?_
  rintro v h46 ⟨rfl, rfl⟩
  have ht : ¬ (((T.tabs.length : Nat) : Int) > 4) := by omega
  refine ⟨_, rfl, y.sync, fun _ => sp_sync hb, br_intro (fun _ => br_intro (fun _ => ?_) fun _ => ?_) fun e => ?_⟩
  · refine (o.sync hgb hj).mono ?_
    rintro v h50 ⟨rfl, o', up, room, now⟩
    refine ⟨_, rfl, br_intro (fun e => by simp at e) fun _ => asks_spec o'.tr (fun U hU => (o'.tf.tab U hU).1) (by omega) (by omega) (sl.updM up fun _ q hq h => h (oa q hq).1) (up.cells hb fun h => h hbN) fun G' k' => ?_⟩
    have z := up.size
    exact hK G' _ _ (o'.wide k') ((sl.updM up fun _ q hq h => h (oa q hq).1).keep k') (fun q hq => ⟨.inl (oa q hq).1, (oa q hq).2⟩) room (by rw [now])
  · refine asks_spec o.tr (fun U hU => (o.tf.tab U hU).1) (by omega) (by omega) sl hb fun G' k' => ?_
    exact hK G' _ _ (o.wide k') (sl.keep k') (fun q hq => ⟨.inl (oa q hq).1, (oa q hq).2⟩) rfl rfl
  · exfalso
    have : decide (((((tw T).tabs.length : Nat)) : Int) > 4) = false := decide_eq_false ht
    rw [this] at e
    cases e
end
set_option maxHeartbeats 4000000 in
theorem does11_spec {h : Heap} (tab : TabH h) {A : Option Addr} {n c : Nat} {l : List Sp} (hs : Sl SpE h A n l) (hok : ∀ x ∈ l, SpOk h x) (hn : n ≤ 9223372036854775807) :
    HC Tryz.prog 6 #[.slice A n c] h fun v h' => Keep h.size h h' ∧ v = .bool true := by
  refine hc_stay ?_
  have hl := hs.1
  have hgb : gb < h.size := by obtain ⟨a, b, hb⟩ := tab; exact at_lt hb
  have hrb : reachBytes ≤ 140737488355328 := by decide
  refine HC_of_vc (args := [.slice A n c]) (base := 155) (cuts := []) (bigs := []) kM Tryz.func6 ?_
  rw [vcLDoes]
  refine (alive11_spec tab).mono ?_
  rintro v h1 ⟨k1, rfl⟩
  refine ⟨_, rfl, br_intro (fun e => by cases e) fun _ => (great11_spec (hs.keep k1) (fun x hx => (hok x hx).updM k1.m (S := fun _ => False) fun _ _ _ => id) hn).mono ?_⟩
  rintro v h4 ⟨k4, b5, rfl, hgr⟩
  have k04 := k1.trans (k4.mono k1.size)
  have z04 := k04.size
  refine ⟨_, rfl, br_intro (fun _ => ⟨(k04.m (S := fun _ => False)).turn fun _ _ => id, rfl⟩) fun e1 => ?_⟩
  obtain ⟨hn60, hsum⟩ := hgr e1
  have tab4 := tab.updM k04.m (S := fun _ => False) id
  refine (new_dn h4 4096).mono ?_
  rintro v h7 ⟨k7, d, rfl, dn7⟩
  refine ⟨_, rfl, (one_new (nm := nmT) (by decide) tab4 k7 dn7).mono ?_⟩
  rintro v h10 ⟨k10, t, g, rfl, O0⟩
  have z7 := k7.size
  have z10 := k10.size
  have hroom : (Dk.new 4096).room = 4096 := by decide
  refine ⟨_, _, rfl, br_intro (fun e => by simp at e) fun _ => ?_⟩
  refine ⟨fun _ a k c' n20 G => ∃ (j u : Nat) (g : Nat → Nat) (N : Nat → Prop) (x : D) (T : TS), n20 = j ∧ j ≤ n ∧ u = sumW (l.take j) ∧ One h4.size h4 t d nmT j u G g N x T ∧ Sl StrPairE G a k T.pairs ∧ (∀ q, blk a q → N q ∧ g q = 0) ∧ x.room = 4096 ∧ tot x.now = phi T ∧ T.tabs.length ≤ 3,
    fun _ _ _ _ n20 _ => n - n20.toNat, ⟨0, 0, g, _, _, T0, rfl, Nat.zero_le _, by simp [sumW], O0, Sl.nil _ _, fun q ⟨_, e, _⟩ => (by cases e), hroom, rfl, Nat.zero_le _⟩, ?_⟩
  clear O0
  rintro b15 a16 k17 k18 n19 G ⟨j, u, g, N, x, T, rfl, hj, hu, O, sP, oP, hroom, htot, htab⟩
  have hsj := sumW_le l j
  have hu1 : u ≤ 1000 := by omega
  have hgb4 : gb < h4.size := by omega
  have zG : h4.size ≤ G.size := O.up.size
  have hbd := O.bounds (by omega)
  have hpl : T.pairs.length ≤ 100000 := by
    have h1 := pairs_len T
    omega
  refine br_intro (fun e => ?_) fun e => ?_
  · have e := of_decide_eq_true e
    have hjl : j < l.length := by omega
    have hq : l[j]? = some (l[j]'hjl) := List.getElem?_eq_getElem hjl
    have hm := List.getElem_mem hjl
    generalize l[j]'hjl = y at hq hm
    have hst := sumW_take hq
    have hsj1 := sumW_le l (j + 1)
    have hAl : n ≠ 0 → ∀ q, blk A q → q < h.size := fun h0 => sl_lt (by decide) hs h0
    have up0 : UpdM (fun q => h4.size ≤ q) h G := k04.m.trans O.up
    have sG : Sl SpE G A n l := hs.updM up0 fun h0 q hq h5 => by have := hAl h0 q hq; omega
    obtain ⟨y1, y2, y3, y4, y5, y6⟩ := hok y hm
    have hyl : y.ln ≠ 0 → ∀ q, blk y.a q → q < h.size := fun h0 => sl_lt (by decide) y1 h0
    have wln := y1.1
    obtain ⟨p22, ea, rd⟩ := sp_at sG hq
    refine ⟨p22, ⟨ea, by omega, e⟩, _, _, _, _, _, _, _, _, _, by rw [Int.toNat_natCast]; exact rd, svc_sp rfl ?_⟩
    have kb := keep_push G (spBox y)
    have bb := push_at G (spBox y)
    have zb : (G.push (spBox y)).size = G.size + 1 := by simp
    generalize G.push (spBox y) = G1 at kb bb zb
    refine ⟨_, _, _, sp_ws bb, (long08_spec ((y1.updM up0 fun h0 q hq h5 => by have := hyl h0 q hq; omega).keep kb) (by omega)).mono ?_⟩
    rintro v h38 ⟨k38, rfl⟩
    have kG38 := kb.trans (k38.mono (by omega))
    have z38 := kG38.size
    have z39 : G.size < h38.size := by have := k38.size; omega
    have O2 := O.wide kG38
    have b38 := k38.at bb (by omega)
    have sP38 := sP.keep kG38
    have oP2 : ∀ q, blk a16 q → Nv N G h38 q ∧ g q = 0 := fun q hq => ⟨.inl (oP q hq).1, (oP q hq).2⟩
    have hjj : IntKind.i64.wrap ((j : Int) + (1 : Int)) = ((j + 1 : Nat) : Int) := by rw [wrap_i64 (by omega) (by omega)]; rfl
    rw [hjj]
    have w38 : Sl WrE h38 y.a y.ln y.ws := (y1.updM up0 fun h0 q hq h5 => by have := hyl h0 q hq; omega).keep kG38
    have oW : y.ln ≠ 0 → ∀ q, blk y.a q → Nv N G h38 q ∧ g q = 0 := fun h0 q hq => by
      have h5 := O.old q (by have := hyl h0 q hq; omega)
      exact ⟨.inl h5.1, h5.2⟩
    have boxN : Nv N G h38 G.size ∧ g G.size = 0 := ⟨.inr ⟨Nat.le_refl _, by omega⟩, O.new (Nat.le_refl _)⟩
    refine ⟨_, rfl, br_intro (fun el => ?_) fun el => ?_⟩
    · refine ⟨_, _, _, sp_ws b38, (O2.applyL (by decide) hgb4 (by omega) w38 y2 (by omega) oW el).mono ?_⟩
      rintro v h43 ⟨rfl, k43⟩
      refine ⟨_, rfl, br_intro (fun _ => ?_) fun e => by simp at e⟩
      have O3 := (O2.wide k43).next (j' := j + 1) (u' := sumW (l.take (j + 1))) (by omega) (by omega)
      exact O3.rest hgb4 (by omega) (by omega) htab (k43.at b38 z39) (.inl boxN.1) (sP38.keep k43) (fun q hq => ⟨.inl (oP2 q hq).1, (oP2 q hq).2⟩) fun G' N' x' o' s' b' r' t' => ⟨⟨j + 1, _, g, _, x', T, rfl, by omega, rfl, o', s', b', by rw [r']; exact hroom, by rw [t']; exact htot, htab⟩, by dsimp only; omega⟩
    · have hl1024 := u0_long (hok y hm) el
      have hphi := O.tf.phi_le O.few (by omega)
      have hf : 2000 ≤ Dk.free x := by unfold Dk.free; omega
      refine ⟨_, _, _, sp_ws b38, (all08_spec sP38 (srt_pairs T) w38 (by omega)).mono ?_⟩
      rintro v h52 ⟨k52, a53, k54, k55, rfl, s52, b52⟩
      have O4 := O2.wide k52
      have b52' := k52.at b38 z39
      refine ⟨_, _, _, rfl, _, _, _, sp_ws b52', (O4.apply (by decide) hgb4 (fun _ => by omega) (by omega) (w38.keep k52) y2 (by omega) (fun h0 q hq => ⟨.inl (oW h0 q hq).1, (oW h0 q hq).2⟩) el).mono ?_⟩
      rintro v h60 hv
      rcases hv with ⟨_, _, _, h7⟩ | ⟨rfl, S, g', N', x', T', O5, hpr, uS, hS, hrm, htb, htt, _, _, _, _, _⟩
      · exact absurd hf h7
      have hu3 : u + y.ln = sumW (l.take (j + 1)) := by omega
      rw [hu3] at O5
      have oP5 : ∀ q, blk a53 q → Nv (Nv N G h38) h38 h52 q ∧ g q = 0 := fun q hq => by
        rcases b52 q hq with h5 | h5
        · exact ⟨.inl (oP2 q h5).1, (oP2 q h5).2⟩
        · exact ⟨.inr h5, O2.new h5.1⟩
      have b60 : h60[G.size]? = some (spBox y) := uS.cells b52' (hS G.size (.inl boxN.1) boxN.2).1
      refine ⟨_, rfl, br_intro (fun _ => ?_) fun e => by simp at e⟩
      refine O5.rest hgb4 (by omega) (by omega) (htb hf htab) b60 (hS G.size (.inl boxN.1) boxN.2).2.1 (by rw [hpr]; exact s52.updM uS fun h0 q hq => (hS q (oP5 q hq).1 (oP5 q hq).2).1) (fun q hq => ?_) fun G' N'' x'' o' s' b' r' t' => ⟨⟨j + 1, _, g', _, x'', T', rfl, by omega, rfl, o', s', b', by rw [r', hrm]; exact hroom, by omega, htb hf htab⟩, by dsimp only; omega⟩
      have h6 := oP5 q hq
      have h7 := hS q h6.1 h6.2
      exact ⟨h7.2.1, h7.2.2 (O4.dn.lt h6.1)⟩
  · refine (tget0_spec _).mono ?_
    rintro v h228 ⟨rfl, rfl⟩
    refine ⟨_, _, rfl, (topen0_spec _).mono ?_⟩
    rintro v h232 ⟨rfl, rfl⟩
    refine ⟨_, _, rfl, tapply0_spec.mono ?_⟩
    rintro v h236 ⟨rfl, rfl⟩
    refine ⟨_, rfl, br_intro (fun _ => tsync0_spec.mono ?_) fun e => by simp at e⟩
    rintro v h239 ⟨rfl, rfl⟩
    refine ⟨_, rfl, br_intro (fun _ => (tscan0_spec _ _).mono ?_) fun e => by simp at e⟩
    rintro v h242 ⟨rfl, rfl⟩
    refine ⟨_, _, _, rfl, br_intro (fun _ => ttables0_spec.mono ?_) fun e => by simp at e⟩
    rintro v h247 ⟨rfl, rfl⟩
    exact ⟨_, rfl, (k04.m.trans O.up).turn fun q hq h5 => by omega, rfl⟩
end Go.Proofs.YtkhinnchplahlaaGreatDoor
end

section
namespace Go.Proofs.YtkhinnchplahlaaGreatDoor
open Go

/-- so many blocks has the settled world. -/
noncomputable def low : Nat := (World.holding Tryz.prog default ⟨#[], #[], []⟩).heap.size
def lay (v : Array Value) : Obj → Obj
  | .cells _ t frozen => .cells v t frozen
  | o => o
noncomputable def laidWorld (os : Os) : World :=
  let w0 := World.holding Tryz.prog os ⟨#[.cells #[.string { data := #[105, 110, 118, 97, 108, 105, 100, 32, 115, 121, 110, 116, 97, 120] }] 273, .cells #[.string { data := #[118, 97, 108, 117, 101, 32, 111, 117, 116, 32, 111, 102, 32, 114, 97, 110, 103, 101] }] 273], #[], []⟩
  { w0 with heap := ((((w0.heap.modify 0 (lay #[.iface 271 (.pointer (some ⟨low, 0, none⟩))])).modify 1 (lay #[.iface 271 (.pointer (some ⟨low + 1, 0, none⟩))])).modify 2 (lay #[.int .u64 1, .int .u64 10, .int .u64 100, .int .u64 1000, .int .u64 10000, .int .u64 100000, .int .u64 1000000, .int .u64 10000000, .int .u64 100000000, .int .u64 1000000000, .int .u64 10000000000, .int .u64 100000000000, .int .u64 1000000000000, .int .u64 10000000000000, .int .u64 100000000000000, .int .u64 1000000000000000, .int .u64 10000000000000000, .int .u64 100000000000000000, .int .u64 1000000000000000000, .int .u64 10000000000000000000])).modify 3 (lay #[.int .u8 0, .int .u8 1, .int .u8 28, .int .u8 2, .int .u8 29, .int .u8 14, .int .u8 24, .int .u8 3, .int .u8 30, .int .u8 22, .int .u8 20, .int .u8 15, .int .u8 25, .int .u8 17, .int .u8 4, .int .u8 8, .int .u8 31, .int .u8 27, .int .u8 13, .int .u8 23, .int .u8 21, .int .u8 19, .int .u8 16, .int .u8 7, .int .u8 26, .int .u8 12, .int .u8 18, .int .u8 6, .int .u8 11, .int .u8 5, .int .u8 10, .int .u8 9])).modify 4 (lay #[.int .u8 0, .int .u8 1, .int .u8 56, .int .u8 2, .int .u8 57, .int .u8 49, .int .u8 28, .int .u8 3, .int .u8 61, .int .u8 58, .int .u8 42, .int .u8 50, .int .u8 38, .int .u8 29, .int .u8 17, .int .u8 4, .int .u8 62, .int .u8 47, .int .u8 59, .int .u8 36, .int .u8 45, .int .u8 43, .int .u8 51, .int .u8 22, .int .u8 53, .int .u8 39, .int .u8 33, .int .u8 30, .int .u8 24, .int .u8 18, .int .u8 12, .int .u8 5, .int .u8 63, .int .u8 55, .int .u8 48, .int .u8 27, .int .u8 60, .int .u8 41, .int .u8 37, .int .u8 16, .int .u8 46, .int .u8 35, .int .u8 44, .int .u8 21, .int .u8 52, .int .u8 32, .int .u8 23, .int .u8 11, .int .u8 54, .int .u8 26, .int .u8 40, .int .u8 15, .int .u8 34, .int .u8 20, .int .u8 31, .int .u8 10, .int .u8 25, .int .u8 14, .int .u8 19, .int .u8 9, .int .u8 13, .int .u8 8, .int .u8 7, .int .u8 6]) }
abbrev laidRows : List (String × DataW Unit) := [("math/bits.deBruijn32tab", Rows.laid_math_bits_deBruijn32tab), ("math/bits.deBruijn64tab", Rows.laid_math_bits_deBruijn64tab), ("internal/strconv.uint64pow10", Rows.laid_internal_strconv_uint64pow10), ("strconv.ErrRange", Rows.laid_strconv_ErrRange), ("strconv.ErrSyntax", Rows.laid_strconv_ErrSyntax)]
set_option maxRecDepth 100000 in
theorem laidWorld_met (os : Os) (args : Array Value) : laidMet Tryz.prog laidRows ((laidWorld os).forCall (fun _ _ => 0) ⟨#[], args, []⟩).memory :=
  laidMet_of_run3 8 (by kernel_rfl) (by kernel_rfl) (by kernel_rfl)
end Go.Proofs.YtkhinnchplahlaaGreatDoor
end

section
set_option linter.unusedVariables false
namespace Go.Proofs.YtkhinnchplahlaaGreatDoor
open Go Go.Vc Go.Proofs

set_option maxRecDepth 100000 in
theorem tab_of_laid {W : World} (h : laidMet Tryz.prog laidRows W) : TabH W.heap := by
  obtain ⟨ps, ⟨_, _, _, _, _, _, _, _, _, _, ⟨_, _, _, _, _, _, _, _, _, _, ⟨g', t', cs, fuel, p, q, hg', ht', hvar, hd, _, _⟩, _⟩, _⟩, _⟩ := h
  have hg : Tryz.prog.globalNamed "internal/strconv.uint64pow10" = some 2 := by kernel_rfl
  obtain rfl := Option.some.inj (hg.symm.trans hg')
  have hty : (Tryz.prog.globals[2]?).map (·.type) = some 280 := by kernel_rfl
  obtain rfl := Option.some.inj (hty.symm.trans ht')
  have e : (Rows.laid_internal_strconv_uint64pow10 : DataW Unit) = Lib.tabData .u64 Lib.pow10Tab := rfl
  rw [e] at hd
  have hcs := Lib.cells_of_tab (n := 20) (e := 33) (by kernel_rfl) (by kernel_rfl) (by kernel_rfl) (by kernel_rfl) hd
  unfold World.var? at hvar
  rw [hg] at hvar
  have hvar : (match W.heap[2]? with | some (Obj.cells cs _ _) => some cs | _ => none) = some cs := hvar
  cases hh : W.heap[2]? with
  | none => rw [hh] at hvar; cases hvar
  | some o =>
    rw [hh] at hvar
    cases o with
    | cells c t f =>
      have hc : c = cs := Option.some.inj hvar
      refine ⟨t, f, ?_⟩
      rw [hh, hc]
      have : cs = (Lib.pow10Tab.map fun z => Value.int .u64 z).toArray := by
        rw [← hcs]
      rw [this]
    | _ => cases hvar
end Go.Proofs.YtkhinnchplahlaaGreatDoor
end
