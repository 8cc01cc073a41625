/-
  What a call of each function comes to, as the symbolic run tells it: by the kernel's own reckoning. Conditions: none.
-/
import Derived.Test.YtepnckpaknabpaaVcE
import Derived.Test.YtepnckpaknabpaaProg
import Derived.KernelRfl
set_option linter.unusedVariables false
set_option maxRecDepth 100000
namespace Go.Proofs.Ytepnckpaknabpaa
open Go Go.Vc Go.Proofs

theorem vc5 (A0 : Option Addr) (n0 c0 : Nat) (A1 : Option Addr) (n1 c1 : Nat) (A2 : Option Addr) (n2 c2 : Nat) (h : Heap) (R : Value → Heap → Prop) :
    vcF Try.prog Try.f5 98 [] [] [.slice A0 n0 c0, .slice A1 n1 c1, .slice A2 n2 c2] h R =
(HC Try.prog (18 : Nat) (Array.mk []) h fun (v0 : Value) (h1 : Heap) =>
 ∃ (b2 : Bool),
 v0 = Value.bool b2 ∧
 br (!b2) (R (Value.bool false) h1)
 (HC Try.prog (19 : Nat) (Array.mk [Value.slice A0 n0 c0]) h1 fun (v3 : Value) (h4 : Heap) =>
 ∃ (b5 : Bool),
 v3 = Value.bool b5 ∧
 br (bif b5 then false else true)
 (HC Try.prog (19 : Nat) (Array.mk [Value.slice A1 n1 c1]) h4 fun (v6 : Value) (h7 : Heap) =>
 ∃ (b8 : Bool),
 v6 = Value.bool b8 ∧
 br (bif b8 then false else true)
 (HC Try.prog (19 : Nat) (Array.mk [Value.slice A2 n2 c2]) h7 fun (v9 : Value) (h10 : Heap) =>
 ∃ (b11 : Bool),
 v9 = Value.bool b11 ∧
 br b11 (R (Value.bool true) h10)
 (HC Try.prog (20 : Nat) (Array.mk [Value.slice A0 n0 c0, Value.slice A1 n1 c1, Value.slice A2 n2 c2]) h10 fun (v12 : Value) (h13 : Heap) =>
 ∃ (a14 : Option Addr),
 ∃ (k15 : Nat),
 ∃ (k16 : Nat),
 ∃ (a17 : Option Addr),
 ∃ (k18 : Nat),
 ∃ (k19 : Nat),
 v12 = Value.tuple (Array.mk [Value.slice a14 k15 k16, Value.slice a17 k18 k19]) ∧
 HC Try.prog (20 : Nat) (Array.mk [Value.slice A0 n0 c0, Value.slice A2 n2 c2, Value.slice A1 n1 c1]) h13 fun (v20 : Value) (h21 : Heap) =>
 ∃ (a22 : Option Addr),
 ∃ (k23 : Nat),
 ∃ (k24 : Nat),
 ∃ (a25 : Option Addr),
 ∃ (k26 : Nat),
 ∃ (k27 : Nat),
 v20 = Value.tuple (Array.mk [Value.slice a22 k23 k24, Value.slice a25 k26 k27]) ∧
 HC Try.prog (20 : Nat) (Array.mk [Value.slice A0 n0 c0, Value.slice A0 n0 c0, Value.slice A2 n2 c2]) h21
 fun (v28 : Value) (h29 : Heap) =>
 ∃ (a30 : Option Addr),
 ∃ (k31 : Nat),
 ∃ (k32 : Nat),
 ∃ (a33 : Option Addr),
 ∃ (k34 : Nat),
 ∃ (k35 : Nat),
 v28 = Value.tuple (Array.mk [Value.slice a30 k31 k32, Value.slice a33 k34 k35]) ∧
 HC Try.prog (20 : Nat) (Array.mk [Value.slice A0 n0 c0, Value.slice A1 n1 c1, Value.slice A0 n0 c0]) h29
 fun (v36 : Value) (h37 : Heap) =>
 ∃ (a38 : Option Addr),
 ∃ (k39 : Nat),
 ∃ (k40 : Nat),
 ∃ (a41 : Option Addr),
 ∃ (k42 : Nat),
 ∃ (k43 : Nat),
 v36 = Value.tuple (Array.mk [Value.slice a38 k39 k40, Value.slice a41 k42 k43]) ∧
 HC Try.prog (20 : Nat) (Array.mk [Value.slice A0 n0 c0, Value.slice A1 n1 c1, Value.slice A1 n1 c1]) h37
 fun (v44 : Value) (h45 : Heap) =>
 ∃ (a46 : Option Addr),
 ∃ (k47 : Nat),
 ∃ (k48 : Nat),
 ∃ (a49 : Option Addr),
 ∃ (k50 : Nat),
 ∃ (k51 : Nat),
 v44 = Value.tuple (Array.mk [Value.slice a46 k47 k48, Value.slice a49 k50 k51]) ∧
 HC Try.prog (22 : Nat) (Array.mk [Value.slice a14 k15 k16, Value.slice a22 k23 k24]) h45
 fun (v52 : Value) (h53 : Heap) =>
 ∃ (b54 : Bool),
 v52 = Value.bool b54 ∧
 br b54
 (HC Try.prog (23 : Nat)
 (Array.mk [Value.slice a17 k18 k19, Value.slice a25 k26 k27]) h53
 fun (v55 : Value) (h56 : Heap) =>
 ∃ (b57 : Bool),
 v55 = Value.bool b57 ∧
 br b57
 (HC Try.prog (22 : Nat)
 (Array.mk [Value.slice a30 k31 k32, Value.slice A2 n2 c2]) h56
 fun (v58 : Value) (h59 : Heap) =>
 ∃ (b60 : Bool),
 v58 = Value.bool b60 ∧
 br b60
 (HC Try.prog (22 : Nat)
 (Array.mk [Value.slice a38 k39 k40, Value.slice A1 n1 c1]) h59
 fun (v61 : Value) (h62 : Heap) =>
 ∃ (b63 : Bool),
 v61 = Value.bool b63 ∧
 br b63
 (HC Try.prog (22 : Nat)
 (Array.mk
 [Value.slice a46 k47 k48, Value.slice A1 n1 c1])
 h62 fun (v64 : Value) (h65 : Heap) =>
 ∃ (b66 : Bool),
 v64 = Value.bool b66 ∧
 R
 (Value.bool
 (b66 &&
 IntKind.i64.wrap
 (IntKind.i64.wrap
 ((↑k34 : Int) + (↑k42 : Int)) +
 (↑k50 : Int)) ==
 (0 : Int)))
 h65)
 (R (Value.bool false) h62))
 (R (Value.bool false) h59))
 (R (Value.bool false) h56))
 (R (Value.bool false) h53)))
 (R (Value.bool true) h7))
 (R (Value.bool true) h4))) := by kernel_rfl

theorem vc6 (A0 : Option Addr) (n0 c0 : Nat) (A1 : Option Addr) (n1 c1 : Nat) (A2 : Option Addr) (n2 c2 : Nat) (s : ByteArray) (h : Heap) (R : Value → Heap → Prop) :
    vcF Try.prog Try.f6 150 [] [] [.slice A0 n0 c0, .slice A1 n1 c1, .slice A2 n2 c2, .string s] h R =
(HC Try.prog (18 : Nat) (Array.mk []) h fun (v0 : Value) (h1 : Heap) =>
 ∃ (b2 : Bool),
 v0 = Value.bool b2 ∧
 br (!b2) (R (Value.bool false) h1)
 (HC Try.prog (19 : Nat) (Array.mk [Value.slice A0 n0 c0]) h1 fun (v3 : Value) (h4 : Heap) =>
 ∃ (b5 : Bool),
 v3 = Value.bool b5 ∧
 br (bif b5 then false else true)
 (HC Try.prog (19 : Nat) (Array.mk [Value.slice A1 n1 c1]) h4 fun (v6 : Value) (h7 : Heap) =>
 ∃ (b8 : Bool),
 v6 = Value.bool b8 ∧
 br (bif b8 then false else true)
 (HC Try.prog (19 : Nat) (Array.mk [Value.slice A2 n2 c2]) h7 fun (v9 : Value) (h10 : Heap) =>
 ∃ (b11 : Bool),
 v9 = Value.bool b11 ∧
 br (b11 || decide ((↑s.size : Int) > (1024 : Int))) (R (Value.bool true) h10)
 (HC Try.prog (20 : Nat) (Array.mk [Value.slice A0 n0 c0, Value.slice A1 n1 c1, Value.slice A2 n2 c2]) h10 fun (v12 : Value) (h13 : Heap) =>
 ∃ (a14 : Option Addr),
 ∃ (k15 : Nat),
 ∃ (k16 : Nat),
 ∃ (a17 : Option Addr),
 ∃ (k18 : Nat),
 ∃ (k19 : Nat),
 v12 = Value.tuple (Array.mk [Value.slice a14 k15 k16, Value.slice a17 k18 k19]) ∧
 HC Try.prog (24 : Nat) (Array.mk [Value.slice A0 n0 c0, Value.string s]) h13 fun (v20 : Value) (h21 : Heap) =>
 ∃ (s22 : ByteArray),
 ∃ (b23 : Bool),
 v20 = Value.tuple (Array.mk [Value.string s22, Value.bool b23]) ∧
 HC Try.prog (24 : Nat) (Array.mk [Value.slice A1 n1 c1, Value.string s]) h21 fun (v24 : Value) (h25 : Heap) =>
 ∃ (s26 : ByteArray),
 ∃ (b27 : Bool),
 v24 = Value.tuple (Array.mk [Value.string s26, Value.bool b27]) ∧
 HC Try.prog (24 : Nat) (Array.mk [Value.slice A2 n2 c2, Value.string s]) h25 fun (v28 : Value) (h29 : Heap) =>
 ∃ (s30 : ByteArray),
 ∃ (b31 : Bool),
 v28 = Value.tuple (Array.mk [Value.string s30, Value.bool b31]) ∧
 ∃ (b32 : Bool),
 ((!!s26.toList == s22.toList) = true →
 Reads Try.prog
 (eqSem BinOp.neq (4 : Nat) (Operand.tmp (71 : Nat)) (Operand.tmp (72 : Nat)) (Value.bool b27) (Value.bool b23)) h29
 (Value.bool b32)) ∧
 ∃ (b33 : Bool),
 ((!!s30.toList == s22.toList) = true →
 Reads Try.prog
 (eqSem BinOp.neq (4 : Nat) (Operand.tmp (79 : Nat)) (Operand.tmp (80 : Nat)) (Value.bool b31) (Value.bool b23)) h29
 (Value.bool b33)) ∧
 ∃ (b34 : Bool),
 ((s26.toList == s30.toList) = true →
 Reads Try.prog
 (eqSem BinOp.eql (4 : Nat) (Operand.tmp (87 : Nat)) (Operand.tmp (88 : Nat)) (Value.bool b27) (Value.bool b31))
 h29 (Value.bool b34)) ∧
 ∃ (I35 : Bool → Int → Heap → Prop),
 ∃ (I36 : Bool → Int → Heap → Nat),
 I35 false (0 : Int) h29 ∧
 ∀ (b37 : Bool) (n38 : Int) (h39 : Heap),
 I35 b37 n38 h39 →
 br (decide (n38 < (↑k18 : Int)))
 (∃ (p40 : Addr),
 (a17 = some p40 ∧ (0 : Int) ≤ n38 ∧ n38 < (↑k18 : Int)) ∧
 ∃ (s41 : ByteArray),
 Reads Try.prog (Instr.loadAt (9 : Nat) (Value.pointer (some (p40.add (n38.toNat * (1 : Nat))))))
 h39 (Value.string s41) ∧
 I35 (b37 || s41.toList == s.toList) (IntKind.i64.wrap (n38 + (1 : Int))) h39 ∧
 I36 (b37 || s41.toList == s.toList) (IntKind.i64.wrap (n38 + (1 : Int))) h39 <
 I36 b37 n38 h39)
 (∃ (b42 : Bool),
 Reads Try.prog
 (eqSem BinOp.neq (4 : Nat) (Operand.tmp (104 : Nat)) (Operand.tmp (112 : Nat)) (Value.bool b37)
 (Value.bool
 ((!s26.toList == s22.toList || b32) && (!s30.toList == s22.toList || b33) &&
 !(s26.toList == s30.toList && b34))))
 h39 (Value.bool b42) ∧
 br (b42 || decide ((↑k18 : Int) > (0 : Int)) && decide ((↑k15 : Int) > (0 : Int)))
 (R (Value.bool false) h39)
 (br (decide ((↑k18 : Int) > (0 : Int))) (R (Value.bool true) h39)
 (HC Try.prog (24 : Nat) (Array.mk [Value.slice a14 k15 k16, Value.string s]) h39
 fun (v43 : Value) (h44 : Heap) =>
 ∃ (s45 : ByteArray),
 ∃ (b46 : Bool),
 v43 = Value.tuple (Array.mk [Value.string s45, Value.bool b46]) ∧
 br (!s26.toList == s22.toList || b32)
 (∃ (b47 : Bool),
 ((s45.toList == s26.toList) = true →
 Reads Try.prog
 (eqSem BinOp.eql (4 : Nat) (Operand.tmp (138 : Nat)) (Operand.tmp (139 : Nat))
 (Value.bool b46) (Value.bool b27))
 h44 (Value.bool b47)) ∧
 R (Value.bool (s45.toList == s26.toList && b47)) h44)
 (∃ (b48 : Bool),
 ((s45.toList == s30.toList) = true →
 Reads Try.prog
 (eqSem BinOp.eql (4 : Nat) (Operand.tmp (146 : Nat)) (Operand.tmp (147 : Nat))
 (Value.bool b46) (Value.bool b31))
 h44 (Value.bool b48)) ∧
 R (Value.bool (s45.toList == s30.toList && b48)) h44))))))
 (R (Value.bool true) h7))
 (R (Value.bool true) h4))) := by kernel_rfl

theorem vc7 (A0 : Option Addr) (n0 c0 : Nat) (A1 : Option Addr) (n1 c1 : Nat) (A2 : Option Addr) (n2 c2 : Nat) (h : Heap) (R : Value → Heap → Prop) :
    vcF Try.prog Try.f7 74 [] [] [.slice A0 n0 c0, .slice A1 n1 c1, .slice A2 n2 c2] h R =
(HC Try.prog (18 : Nat) (Array.mk []) h fun (v0 : Value) (h1 : Heap) =>
 ∃ (b2 : Bool),
 v0 = Value.bool b2 ∧
 br (!b2) (R (Value.bool false) h1)
 (HC Try.prog (19 : Nat) (Array.mk [Value.slice A0 n0 c0]) h1 fun (v3 : Value) (h4 : Heap) =>
 ∃ (b5 : Bool),
 v3 = Value.bool b5 ∧
 br (bif b5 then false else true)
 (HC Try.prog (19 : Nat) (Array.mk [Value.slice A1 n1 c1]) h4 fun (v6 : Value) (h7 : Heap) =>
 ∃ (b8 : Bool),
 v6 = Value.bool b8 ∧
 br (bif b8 then false else true)
 (HC Try.prog (19 : Nat) (Array.mk [Value.slice A2 n2 c2]) h7 fun (v9 : Value) (h10 : Heap) =>
 ∃ (b11 : Bool),
 v9 = Value.bool b11 ∧
 br b11 (R (Value.bool true) h10)
 (SVC Try.prog (Instr.buildSlice (22 : Nat) (0 : Nat) (Array.mk [])) h10 fun (v12 : Value) (h13 : Heap) =>
 ∃ (a14 : Option Addr),
 ∃ (k15 : Nat),
 ∃ (k16 : Nat),
 v12 = Value.slice a14 k15 k16 ∧
 SVC Try.prog (Builtin.append_ (Array.mk [(22 : Nat), (22 : Nat)]) (22 : Nat) (Array.mk [Value.slice a14 k15 k16, Value.slice A0 n0 c0])) h13
 fun (v17 : Value) (h18 : Heap) =>
 ∃ (a19 : Option Addr),
 ∃ (k20 : Nat),
 ∃ (k21 : Nat),
 v17 = Value.slice a19 k20 k21 ∧
 SVC Try.prog (Instr.buildSlice (22 : Nat) (0 : Nat) (Array.mk [])) h18 fun (v22 : Value) (h23 : Heap) =>
 ∃ (a24 : Option Addr),
 ∃ (k25 : Nat),
 ∃ (k26 : Nat),
 v22 = Value.slice a24 k25 k26 ∧
 SVC Try.prog (Builtin.append_ (Array.mk [(22 : Nat), (22 : Nat)]) (22 : Nat) (Array.mk [Value.slice a24 k25 k26, Value.slice A1 n1 c1]))
 h23 fun (v27 : Value) (h28 : Heap) =>
 ∃ (a29 : Option Addr),
 ∃ (k30 : Nat),
 ∃ (k31 : Nat),
 v27 = Value.slice a29 k30 k31 ∧
 SVC Try.prog (Instr.buildSlice (22 : Nat) (0 : Nat) (Array.mk [])) h28 fun (v32 : Value) (h33 : Heap) =>
 ∃ (a34 : Option Addr),
 ∃ (k35 : Nat),
 ∃ (k36 : Nat),
 v32 = Value.slice a34 k35 k36 ∧
 SVC Try.prog
 (Builtin.append_ (Array.mk [(22 : Nat), (22 : Nat)]) (22 : Nat)
 (Array.mk [Value.slice a34 k35 k36, Value.slice A2 n2 c2]))
 h33 fun (v37 : Value) (h38 : Heap) =>
 ∃ (a39 : Option Addr),
 ∃ (k40 : Nat),
 ∃ (k41 : Nat),
 v37 = Value.slice a39 k40 k41 ∧
 HC Try.prog (20 : Nat)
 (Array.mk [Value.slice a19 k20 k21, Value.slice a29 k30 k31, Value.slice a39 k40 k41]) h38
 fun (v42 : Value) (h43 : Heap) =>
 ∃ (a44 : Option Addr),
 ∃ (k45 : Nat),
 ∃ (k46 : Nat),
 ∃ (a47 : Option Addr),
 ∃ (k48 : Nat),
 ∃ (k49 : Nat),
 v42 = Value.tuple (Array.mk [Value.slice a44 k45 k46, Value.slice a47 k48 k49]) ∧
 ∃ (I50 : Int → Heap → Prop),
 ∃ (I51 : Int → Heap → Nat),
 I50 (0 : Int) h43 ∧
 ∀ (n52 : Int) (h53 : Heap),
 I50 n52 h53 →
 br (decide (n52 < (↑k45 : Int)))
 (∃ (p54 : Addr),
 (a44 = some p54 ∧ (0 : Int) ≤ n52 ∧ n52 < (↑k45 : Int)) ∧
 SVC Try.prog
 (Instr.storeAt (9 : Nat)
 (Value.pointer (some (p54.add (n52.toNat * (2 : Nat)))))
 (Value.string (ByteArray.mk (Array.mk [(63 : UInt8)]))))
 h53 fun (x55 : Unit) (h56 : Heap) =>
 I50 (IntKind.i64.wrap (n52 + (1 : Int))) h56 ∧
 I51 (IntKind.i64.wrap (n52 + (1 : Int))) h56 < I51 n52 h53)
 (∃ (I57 : Int → Heap → Prop),
 ∃ (I58 : Int → Heap → Nat),
 I57 (0 : Int) h53 ∧
 ∀ (n59 : Int) (h60 : Heap),
 I57 n59 h60 →
 br (decide (n59 < (↑k48 : Int)))
 (∃ (p61 : Addr),
 (a47 = some p61 ∧ (0 : Int) ≤ n59 ∧ n59 < (↑k48 : Int)) ∧
 SVC Try.prog
 (Instr.storeAt (9 : Nat)
 (Value.pointer (some (p61.add (n59.toNat * (1 : Nat)))))
 (Value.string (ByteArray.mk (Array.mk [(63 : UInt8)]))))
 h60 fun (x62 : Unit) (h63 : Heap) =>
 I57 (IntKind.i64.wrap (n59 + (1 : Int))) h63 ∧
 I58 (IntKind.i64.wrap (n59 + (1 : Int))) h63 < I58 n59 h60)
 (HC Try.prog (22 : Nat)
 (Array.mk [Value.slice a19 k20 k21, Value.slice A0 n0 c0]) h60
 fun (v64 : Value) (h65 : Heap) =>
 ∃ (b66 : Bool),
 v64 = Value.bool b66 ∧
 br b66
 (HC Try.prog (22 : Nat)
 (Array.mk [Value.slice a29 k30 k31, Value.slice A1 n1 c1])
 h65 fun (v67 : Value) (h68 : Heap) =>
 ∃ (b69 : Bool),
 v67 = Value.bool b69 ∧
 br b69
 (HC Try.prog (22 : Nat)
 (Array.mk
 [Value.slice a39 k40 k41, Value.slice A2 n2 c2])
 h68 fun (v70 : Value) (h71 : Heap) =>
 ∃ (b72 : Bool),
 v70 = Value.bool b72 ∧ R (Value.bool b72) h71)
 (R (Value.bool false) h68))
 (R (Value.bool false) h65)))))
 (R (Value.bool true) h7))
 (R (Value.bool true) h4))) := by kernel_rfl

theorem vc8 (A0 : Option Addr) (n0 c0 : Nat) (A1 : Option Addr) (n1 c1 : Nat) (A2 : Option Addr) (n2 c2 : Nat) (h : Heap) (R : Value → Heap → Prop) :
    vcF Try.prog Try.f8 76 [] [] [.slice A0 n0 c0, .slice A1 n1 c1, .slice A2 n2 c2] h R =
(HC Try.prog (18 : Nat) (Array.mk []) h fun (v0 : Value) (h1 : Heap) =>
 ∃ (b2 : Bool),
 v0 = Value.bool b2 ∧
 br (!b2) (R (Value.bool false) h1)
 (HC Try.prog (19 : Nat) (Array.mk [Value.slice A0 n0 c0]) h1 fun (v3 : Value) (h4 : Heap) =>
 ∃ (b5 : Bool),
 v3 = Value.bool b5 ∧
 br (bif b5 then false else true)
 (HC Try.prog (19 : Nat) (Array.mk [Value.slice A1 n1 c1]) h4 fun (v6 : Value) (h7 : Heap) =>
 ∃ (b8 : Bool),
 v6 = Value.bool b8 ∧
 br (bif b8 then false else true)
 (HC Try.prog (19 : Nat) (Array.mk [Value.slice A2 n2 c2]) h7 fun (v9 : Value) (h10 : Heap) =>
 ∃ (b11 : Bool),
 v9 = Value.bool b11 ∧
 br b11 (R (Value.bool true) h10)
 (HC Try.prog (17 : Nat) (Array.mk [Value.slice A0 n0 c0, Value.slice A1 n1 c1]) h10 fun (v12 : Value) (h13 : Heap) =>
 ∃ (a14 : Option Addr),
 ∃ (k15 : Nat),
 ∃ (k16 : Nat),
 v12 = Value.slice a14 k15 k16 ∧
 HC Try.prog (17 : Nat) (Array.mk [Value.slice A0 n0 c0, Value.slice A2 n2 c2]) h13 fun (v17 : Value) (h18 : Heap) =>
 ∃ (a19 : Option Addr),
 ∃ (k20 : Nat),
 ∃ (k21 : Nat),
 v17 = Value.slice a19 k20 k21 ∧
 ∃ (I22 : Bool → Int → Heap → Prop),
 ∃ (I23 : Bool → Int → Heap → Nat),
 I22 false (0 : Int) h18 ∧
 ∀ (b24 : Bool) (n25 : Int) (h26 : Heap),
 I22 b24 n25 h26 →
 br (decide (n25 < (↑k15 : Int)))
 (∃ (p27 : Addr),
 (a14 = some p27 ∧ (0 : Int) ≤ n25 ∧ n25 < (↑k15 : Int)) ∧
 ∃ (s28 : ByteArray),
 ∃ (s29 : ByteArray),
 ∃ (s30 : ByteArray),
 ∃ (b31 : Bool),
 ∃ (b32 : Bool),
 Reads Try.prog (Instr.loadAt (40 : Nat) (Value.pointer (some (p27.add (n25.toNat * (5 : Nat)))))) h26
 (Value.agg (Array.mk [Value.string s28, Value.string s29, Value.string s30, Value.bool b31, Value.bool b32])) ∧
 SVC Try.prog
 (Instr.storeAt (40 : Nat) (Value.pointer (some (Addr.mk (Array.size h26) (0 : Nat) none)))
 (Value.agg (Array.mk [Value.string s28, Value.string s29, Value.string s30, Value.bool b31, Value.bool b32])))
 (Array.push h26
 (Obj.cells
 (Array.mk
 [Value.string (ByteArray.mk (Array.mk [])), Value.string (ByteArray.mk (Array.mk [])),
 Value.string (ByteArray.mk (Array.mk [])), Value.bool false, Value.bool false])
 (40 : Nat)))
 fun (x33 : Unit) (h34 : Heap) =>
 ∃ (I35 : Bool → Int → Heap → Prop),
 ∃ (I36 : Bool → Int → Heap → Nat),
 I35 b24 (0 : Int) h34 ∧
 ∀ (b37 : Bool) (n38 : Int) (h39 : Heap),
 I35 b37 n38 h39 →
 br (decide (n38 < (↑k20 : Int)))
 (∃ (p40 : Addr),
 (a19 = some p40 ∧ (0 : Int) ≤ n38 ∧ n38 < (↑k20 : Int)) ∧
 ∃ (s41 : ByteArray),
 ∃ (s42 : ByteArray),
 ∃ (s43 : ByteArray),
 ∃ (b44 : Bool),
 ∃ (b45 : Bool),
 Reads Try.prog
 (Instr.loadAt (40 : Nat) (Value.pointer (some (p40.add (n38.toNat * (5 : Nat)))))) h39
 (Value.agg
 (Array.mk
 [Value.string s41, Value.string s42, Value.string s43, Value.bool b44,
 Value.bool b45])) ∧
 SVC Try.prog
 (Instr.storeAt (40 : Nat)
 (Value.pointer (some (Addr.mk (Array.size h39) (0 : Nat) none)))
 (Value.agg
 (Array.mk
 [Value.string s41, Value.string s42, Value.string s43, Value.bool b44,
 Value.bool b45])))
 (Array.push h39
 (Obj.cells
 (Array.mk
 [Value.string (ByteArray.mk (Array.mk [])),
 Value.string (ByteArray.mk (Array.mk [])),
 Value.string (ByteArray.mk (Array.mk [])), Value.bool false, Value.bool false])
 (40 : Nat)))
 fun (x46 : Unit) (h47 : Heap) =>
 ∃ (s48 : ByteArray),
 Reads Try.prog
 (Instr.loadAt (9 : Nat)
 (Value.pointer (some (Addr.mk (Array.size h26) (0 : Nat) none))))
 h47 (Value.string s48) ∧
 ∃ (s49 : ByteArray),
 Reads Try.prog
 (Instr.loadAt (9 : Nat)
 (Value.pointer (some (Addr.mk (Array.size h39) (0 : Nat) none))))
 h47 (Value.string s49) ∧
 br (s48.toList == s49.toList) (R (Value.bool true) h47)
 (I35 b37 (IntKind.i64.wrap (n38 + (1 : Int))) h47 ∧
 I36 b37 (IntKind.i64.wrap (n38 + (1 : Int))) h47 < I36 b37 n38 h39))
 (I22 b37 (IntKind.i64.wrap (n25 + (1 : Int))) h39 ∧
 I23 b37 (IntKind.i64.wrap (n25 + (1 : Int))) h39 < I23 b24 n25 h26))
 (HC Try.prog (20 : Nat) (Array.mk [Value.slice A0 n0 c0, Value.slice A1 n1 c1, Value.slice A2 n2 c2]) h26
 fun (v50 : Value) (h51 : Heap) =>
 ∃ (a52 : Option Addr),
 ∃ (k53 : Nat),
 ∃ (k54 : Nat),
 ∃ (a55 : Option Addr),
 ∃ (k56 : Nat),
 ∃ (k57 : Nat),
 v50 = Value.tuple (Array.mk [Value.slice a52 k53 k54, Value.slice a55 k56 k57]) ∧
 br
 (Decidable.rec (fun (I59 : (↑k56 : Int) = (0 : Int) → False) => false) (fun (x60 : (↑k56 : Int) = (0 : Int)) => true)
 ((↑k56 : Int).instDecidableEq (0 : Int)))
 (HC Try.prog (17 : Nat) (Array.mk [Value.slice A1 n1 c1, Value.slice a52 k53 k54]) h51
 fun (v61 : Value) (h62 : Heap) =>
 ∃ (a63 : Option Addr),
 ∃ (k64 : Nat),
 ∃ (k65 : Nat),
 v61 = Value.slice a63 k64 k65 ∧
 HC Try.prog (15 : Nat) (Array.mk [Value.slice a63 k64 k65, Value.slice a19 k20 k21]) h62
 fun (v66 : Value) (h67 : Heap) =>
 ∃ (b68 : Bool),
 v66 = Value.bool b68 ∧
 br b68
 (HC Try.prog (17 : Nat) (Array.mk [Value.slice A2 n2 c2, Value.slice a52 k53 k54]) h67
 fun (v69 : Value) (h70 : Heap) =>
 ∃ (a71 : Option Addr),
 ∃ (k72 : Nat),
 ∃ (k73 : Nat),
 v69 = Value.slice a71 k72 k73 ∧
 HC Try.prog (15 : Nat) (Array.mk [Value.slice a71 k72 k73, Value.slice a14 k15 k16]) h70
 fun (v74 : Value) (h75 : Heap) =>
 ∃ (b76 : Bool), v74 = Value.bool b76 ∧ R (Value.bool b76) h75)
 (R (Value.bool false) h67))
 (R (Value.bool false) h51))))
 (R (Value.bool true) h7))
 (R (Value.bool true) h4))) := by kernel_rfl
end Go.Proofs.Ytepnckpaknabpaa
