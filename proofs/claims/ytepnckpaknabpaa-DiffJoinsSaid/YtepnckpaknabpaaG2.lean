/-
  What a call of each function comes to, as the symbolic run tells it: by the kernel's own reckoning. Conditions: none.
-/
import Derived.Test.YtepnckpaknabpaaVcE
import Derived.Test.YtepnckpaknabpaaProg
import Derived.KernelRfl
set_option linter.unusedVariables false
set_option maxRecDepth 100000
namespace Go.Proofs.Ytepnckpaknabpaa
open Go Go.Vc Go.Proofs

theorem vc33 (A0 : Option Addr) (n0 c0 : Nat) (s : ByteArray) (h : Heap) (R : Value → Heap → Prop) :
    vcF Try.prog Try.f33 20 [] [] [.slice A0 n0 c0, .string s] h R =
(∃ (I0 : Int → Int → Heap → Prop),
 ∃ (I1 : Int → Int → Heap → Nat),
 I0 (0 : Int) (0 : Int) h ∧
 ∀ (n2 n3 : Int) (h4 : Heap),
 I0 n2 n3 h4 →
 br (decide (n3 < (↑n0 : Int)))
 (∃ (p5 : Addr),
 (A0 = some p5 ∧ (0 : Int) ≤ n3 ∧ n3 < (↑n0 : Int)) ∧
 ∃ (s6 : ByteArray),
 ∃ (s7 : ByteArray),
 Reads Try.prog (Instr.loadAt (38 : Nat) (Value.pointer (some (p5.add (n3.toNat * (2 : Nat)))))) h4 (Value.agg (Array.mk [Value.string s6, Value.string s7])) ∧
 SVC Try.prog (Instr.storeAt (38 : Nat) (Value.pointer (some (Addr.mk (Array.size h4) (0 : Nat) none))) (Value.agg (Array.mk [Value.string s6, Value.string s7])))
 (Array.push h4 (Obj.cells (Array.mk [Value.string (ByteArray.mk (Array.mk [])), Value.string (ByteArray.mk (Array.mk []))]) (38 : Nat))) fun (x8 : Unit) (h9 : Heap) =>
 ∃ (s10 : ByteArray),
 Reads Try.prog (Instr.loadAt (9 : Nat) (Value.pointer (some (Addr.mk (Array.size h4) (0 : Nat) none)))) h9 (Value.string s10) ∧
 br (s10.toList == s.toList) (R (Value.int IntKind.i64 n3) h9) (I0 n2 (IntKind.i64.wrap (n3 + (1 : Int))) h9 ∧ I1 n2 (IntKind.i64.wrap (n3 + (1 : Int))) h9 < I1 n2 n3 h4))
 (R (Value.int IntKind.i64 (-1 : Int)) h4)) := by kernel_rfl

theorem vc24 (A0 : Option Addr) (n0 c0 : Nat) (s : ByteArray) (h : Heap) (R : Value → Heap → Prop) :
    vcF Try.prog Try.f24 17 [] [] [.slice A0 n0 c0, .string s] h R =
(HC Try.prog (33 : Nat) (Array.mk [Value.slice A0 n0 c0, Value.string s]) h fun (v0 : Value) (h1 : Heap) =>
 ∃ (n2 : Int),
 v0 = Value.int IntKind.i64 n2 ∧
 br (decide (n2 < (0 : Int))) (R (Value.tuple (Array.mk [Value.string (ByteArray.mk (Array.mk [])), Value.bool false])) h1)
 (∃ (p3 : Addr),
 (A0 = some p3 ∧ (0 : Int) ≤ n2 ∧ n2 < (↑n0 : Int)) ∧
 ∃ (s4 : ByteArray),
 Reads Try.prog (Instr.loadAt (9 : Nat) (Value.pointer (some ((p3.add (n2.toNat * (2 : Nat))).add (1 : Nat))))) h1 (Value.string s4) ∧
 R (Value.tuple (Array.mk [Value.string s4, Value.bool true])) h1)) := by kernel_rfl

theorem vc28 (A0 : Option Addr) (n0 c0 : Nat) (h : Heap) (R : Value → Heap → Prop) :
    vcF Try.prog Try.f28 26 [] [] [.slice A0 n0 c0] h R =
(∃ (I0 : Bool → Int → Heap → Prop),
 ∃ (I1 : Bool → Int → Heap → Nat),
 I0 false (0 : Int) h ∧
 ∀ (b2 : Bool) (n3 : Int) (h4 : Heap),
 I0 b2 n3 h4 →
 br (decide (n3 < (↑n0 : Int)))
 (∃ (p5 : Addr),
 (decide (n3 > (0 : Int)) = true → A0 = some p5 ∧ (0 : Int) ≤ IntKind.i64.wrap (n3 - (1 : Int)) ∧ IntKind.i64.wrap (n3 - (1 : Int)) < (↑n0 : Int)) ∧
 ∃ (s6 : ByteArray),
 (decide (n3 > (0 : Int)) = true →
 Reads Try.prog (Instr.loadAt (9 : Nat) (Value.pointer (some (p5.add ((IntKind.i64.wrap (n3 - (1 : Int))).toNat * (2 : Nat)))))) h4 (Value.string s6)) ∧
 ∃ (p7 : Addr),
 (decide (n3 > (0 : Int)) = true → A0 = some p7 ∧ (0 : Int) ≤ n3 ∧ n3 < (↑n0 : Int)) ∧
 ∃ (s8 : ByteArray),
 (decide (n3 > (0 : Int)) = true → Reads Try.prog (Instr.loadAt (9 : Nat) (Value.pointer (some (p7.add (n3.toNat * (2 : Nat)))))) h4 (Value.string s8)) ∧
 br (decide (n3 > (0 : Int)) && !Op.bytesLess s6.toList s8.toList) (R (Value.bool false) h4)
 (I0 b2 (IntKind.i64.wrap (n3 + (1 : Int))) h4 ∧ I1 b2 (IntKind.i64.wrap (n3 + (1 : Int))) h4 < I1 b2 n3 h4))
 (R (Value.bool true) h4)) := by kernel_rfl

theorem vc14 (A0 : Option Addr) (n0 c0 : Nat) (h : Heap) (R : Value → Heap → Prop) :
    vcF Try.prog Try.f14 30 [] [] [.slice A0 n0 c0] h R =
(br (decide ((↑n0 : Int) > (300 : Int))) (R (Value.bool true) h)
 (∃ (I0 : Bool → Int → Int → Heap → Prop),
 ∃ (I1 : Bool → Int → Int → Heap → Nat),
 I0 false (0 : Int) (0 : Int) h ∧
 ∀ (b2 : Bool) (n3 n4 : Int) (h5 : Heap),
 I0 b2 n3 n4 h5 →
 br (decide (n4 < (↑n0 : Int)))
 (∃ (p6 : Addr),
 (A0 = some p6 ∧ (0 : Int) ≤ n4 ∧ n4 < (↑n0 : Int)) ∧
 ∃ (s7 : ByteArray),
 ∃ (s8 : ByteArray),
 Reads Try.prog (Instr.loadAt (38 : Nat) (Value.pointer (some (p6.add (n4.toNat * (2 : Nat)))))) h5 (Value.agg (Array.mk [Value.string s7, Value.string s8])) ∧
 SVC Try.prog (Instr.storeAt (38 : Nat) (Value.pointer (some (Addr.mk (Array.size h5) (0 : Nat) none))) (Value.agg (Array.mk [Value.string s7, Value.string s8])))
 (Array.push h5 (Obj.cells (Array.mk [Value.string (ByteArray.mk (Array.mk [])), Value.string (ByteArray.mk (Array.mk []))]) (38 : Nat))) fun (x9 : Unit) (h10 : Heap) =>
 ∃ (s11 : ByteArray),
 Reads Try.prog (Instr.loadAt (9 : Nat) (Value.pointer (some (Addr.mk (Array.size h5) (0 : Nat) none)))) h10 (Value.string s11) ∧
 ∃ (s12 : ByteArray),
 Reads Try.prog (Instr.loadAt (9 : Nat) (Value.pointer (some ((Addr.mk (Array.size h5) (0 : Nat) none).add (1 : Nat))))) h10 (Value.string s12) ∧
 br (decide (IntKind.i64.wrap (n3 + IntKind.i64.wrap ((↑s11.size : Int) + (↑s12.size : Int))) > (8192 : Int))) (R (Value.bool true) h10)
 (I0 b2 (IntKind.i64.wrap (n3 + IntKind.i64.wrap ((↑s11.size : Int) + (↑s12.size : Int)))) (IntKind.i64.wrap (n4 + (1 : Int))) h10 ∧
 I1 b2 (IntKind.i64.wrap (n3 + IntKind.i64.wrap ((↑s11.size : Int) + (↑s12.size : Int)))) (IntKind.i64.wrap (n4 + (1 : Int))) h10 < I1 b2 n3 n4 h5))
 (HC Try.prog (28 : Nat) (Array.mk [Value.slice A0 n0 c0]) h5 fun (v13 : Value) (h14 : Heap) => ∃ (b15 : Bool), v13 = Value.bool b15 ∧ R (Value.bool !b15) h14))) := by kernel_rfl

theorem vc15 (A0 : Option Addr) (n0 c0 : Nat) (A1 : Option Addr) (n1 c1 : Nat) (h : Heap) (R : Value → Heap → Prop) :
    vcF Try.prog Try.f15 26 [] [] [.slice A0 n0 c0, .slice A1 n1 c1] h R =
(br ((↑n0 : Int) != (↑n1 : Int)) (R (Value.bool false) h)
 (∃ (I0 : Bool → Int → Heap → Prop),
 ∃ (I1 : Bool → Int → Heap → Nat),
 I0 false (0 : Int) h ∧
 ∀ (b2 : Bool) (n3 : Int) (h4 : Heap),
 I0 b2 n3 h4 →
 br (decide (n3 < (↑n0 : Int)))
 (∃ (p5 : Addr),
 (A0 = some p5 ∧ (0 : Int) ≤ n3 ∧ n3 < (↑n0 : Int)) ∧
 ∃ (s6 : ByteArray),
 ∃ (s7 : ByteArray),
 ∃ (s8 : ByteArray),
 ∃ (b9 : Bool),
 ∃ (b10 : Bool),
 Reads Try.prog (Instr.loadAt (40 : Nat) (Value.pointer (some (p5.add (n3.toNat * (5 : Nat)))))) h4
 (Value.agg (Array.mk [Value.string s6, Value.string s7, Value.string s8, Value.bool b9, Value.bool b10])) ∧
 ∃ (p11 : Addr),
 (A1 = some p11 ∧ (0 : Int) ≤ n3 ∧ n3 < (↑n1 : Int)) ∧
 ∃ (s12 : ByteArray),
 ∃ (s13 : ByteArray),
 ∃ (s14 : ByteArray),
 ∃ (b15 : Bool),
 ∃ (b16 : Bool),
 Reads Try.prog (Instr.loadAt (40 : Nat) (Value.pointer (some (p11.add (n3.toNat * (5 : Nat)))))) h4
 (Value.agg (Array.mk [Value.string s12, Value.string s13, Value.string s14, Value.bool b15, Value.bool b16])) ∧
 ∃ (b17 : Bool),
 Reads Try.prog
 (eqSem BinOp.neq (40 : Nat) (Operand.tmp (19 : Nat)) (Operand.tmp (23 : Nat))
 (Value.agg (Array.mk [Value.string s6, Value.string s7, Value.string s8, Value.bool b9, Value.bool b10]))
 (Value.agg (Array.mk [Value.string s12, Value.string s13, Value.string s14, Value.bool b15, Value.bool b16])))
 h4 (Value.bool b17) ∧
 br b17 (R (Value.bool false) h4) (I0 b2 (IntKind.i64.wrap (n3 + (1 : Int))) h4 ∧ I1 b2 (IntKind.i64.wrap (n3 + (1 : Int))) h4 < I1 b2 n3 h4))
 (R (Value.bool true) h4))) := by kernel_rfl

theorem vc35 (A0 : Option Addr) (n0 c0 : Nat) (s0 s1 : ByteArray) (b : Bool) (h : Heap) (R : Value → Heap → Prop) :
    vcF Try.prog Try.f35 55 [] [] [.slice A0 n0 c0, .agg #[.string s0, .string s1, .bool b]] h R =
(∃ (b0 : Bool),
 Reads Try.prog (Instr.loadAt (4 : Nat) (Value.pointer (some ((Addr.mk (Array.size h) (0 : Nat) none).add (2 : Nat)))))
 (Array.push h (Obj.cells (Array.mk [Value.string s0, Value.string s1, Value.bool b]) (60 : Nat))) (Value.bool b0) ∧
 ∃ (I1 : Option Addr → Nat → Nat → Bool → Int → Heap → Prop),
 ∃ (I2 : Option Addr → Nat → Nat → Bool → Int → Heap → Nat),
 I1 none (0 : Nat) (0 : Nat) b0 (0 : Int) (Array.push h (Obj.cells (Array.mk [Value.string s0, Value.string s1, Value.bool b]) (60 : Nat))) ∧
 ∀ (a3 : Option Addr) (k4 k5 : Nat) (b6 : Bool) (n7 : Int) (h8 : Heap),
 I1 a3 k4 k5 b6 n7 h8 →
 br (decide (n7 < (↑n0 : Int)))
 (∃ (p9 : Addr),
 (A0 = some p9 ∧ (0 : Int) ≤ n7 ∧ n7 < (↑n0 : Int)) ∧
 ∃ (s10 : ByteArray),
 ∃ (s11 : ByteArray),
 Reads Try.prog (Instr.loadAt (38 : Nat) (Value.pointer (some (p9.add (n7.toNat * (2 : Nat)))))) h8 (Value.agg (Array.mk [Value.string s10, Value.string s11])) ∧
 SVC Try.prog (Instr.storeAt (38 : Nat) (Value.pointer (some (Addr.mk (Array.size h8) (0 : Nat) none))) (Value.agg (Array.mk [Value.string s10, Value.string s11])))
 (Array.push h8 (Obj.cells (Array.mk [Value.string (ByteArray.mk (Array.mk [])), Value.string (ByteArray.mk (Array.mk []))]) (38 : Nat))) fun (x12 : Unit) (h13 : Heap) =>
 ∃ (s14 : ByteArray),
 ((!b6) = true → Reads Try.prog (Instr.loadAt (9 : Nat) (Value.pointer (some (Addr.mk (Array.size h8) (0 : Nat) none)))) h13 (Value.string s14)) ∧
 ∃ (s15 : ByteArray),
 ((!b6) = true → Reads Try.prog (Instr.loadAt (9 : Nat) (Value.pointer (some (Addr.mk (Array.size h) (0 : Nat) none)))) h13 (Value.string s15)) ∧
 br (!b6 && !Op.bytesLess s14.toList s15.toList)
 (∃ (s16 : ByteArray),
 Reads Try.prog (Instr.loadAt (9 : Nat) (Value.pointer (some (Addr.mk (Array.size h) (0 : Nat) none)))) h13 (Value.string s16) ∧
 ∃ (s17 : ByteArray),
 Reads Try.prog (Instr.loadAt (9 : Nat) (Value.pointer (some ((Addr.mk (Array.size h) (0 : Nat) none).add (1 : Nat))))) h13 (Value.string s17) ∧
 SVC Try.prog (Instr.buildSlice (22 : Nat) (1 : Nat) (Array.mk [((0 : Nat), Value.agg (Array.mk [Value.string s16, Value.string s17]))])) h13
 fun (v18 : Value) (h19 : Heap) =>
 ∃ (a20 : Option Addr),
 ∃ (k21 : Nat),
 ∃ (k22 : Nat),
 v18 = Value.slice a20 k21 k22 ∧
 SVC Try.prog (Builtin.append_ (Array.mk [(22 : Nat), (22 : Nat)]) (22 : Nat) (Array.mk [Value.slice a3 k4 k5, Value.slice a20 k21 k22])) h19
 fun (v23 : Value) (h24 : Heap) =>
 ∃ (a25 : Option Addr),
 ∃ (k26 : Nat),
 ∃ (k27 : Nat),
 v23 = Value.slice a25 k26 k27 ∧
 ∃ (s28 : ByteArray),
 Reads Try.prog (Instr.loadAt (9 : Nat) (Value.pointer (some (Addr.mk (Array.size h8) (0 : Nat) none)))) h24 (Value.string s28) ∧
 ∃ (s29 : ByteArray),
 Reads Try.prog (Instr.loadAt (9 : Nat) (Value.pointer (some (Addr.mk (Array.size h) (0 : Nat) none)))) h24 (Value.string s29) ∧
 br (!s28.toList == s29.toList)
 (∃ (s30 : ByteArray),
 ∃ (s31 : ByteArray),
 Reads Try.prog (Instr.loadAt (38 : Nat) (Value.pointer (some (Addr.mk (Array.size h8) (0 : Nat) none)))) h24
 (Value.agg (Array.mk [Value.string s30, Value.string s31])) ∧
 SVC Try.prog
 (Instr.buildSlice (22 : Nat) (1 : Nat)
 (Array.mk [((0 : Nat), Value.agg (Array.mk [Value.string s30, Value.string s31]))]))
 h24 fun (v32 : Value) (h33 : Heap) =>
 ∃ (a34 : Option Addr),
 ∃ (k35 : Nat),
 ∃ (k36 : Nat),
 v32 = Value.slice a34 k35 k36 ∧
 SVC Try.prog
 (Builtin.append_ (Array.mk [(22 : Nat), (22 : Nat)]) (22 : Nat)
 (Array.mk [Value.slice a25 k26 k27, Value.slice a34 k35 k36]))
 h33 fun (v37 : Value) (h38 : Heap) =>
 ∃ (a39 : Option Addr),
 ∃ (k40 : Nat),
 ∃ (k41 : Nat),
 v37 = Value.slice a39 k40 k41 ∧
 I1 a39 k40 k41 true (IntKind.i64.wrap (n7 + (1 : Int))) h38 ∧
 I2 a39 k40 k41 true (IntKind.i64.wrap (n7 + (1 : Int))) h38 < I2 a3 k4 k5 b6 n7 h8)
 (I1 a25 k26 k27 true (IntKind.i64.wrap (n7 + (1 : Int))) h24 ∧
 I2 a25 k26 k27 true (IntKind.i64.wrap (n7 + (1 : Int))) h24 < I2 a3 k4 k5 b6 n7 h8))
 (∃ (s42 : ByteArray),
 Reads Try.prog (Instr.loadAt (9 : Nat) (Value.pointer (some (Addr.mk (Array.size h8) (0 : Nat) none)))) h13 (Value.string s42) ∧
 ∃ (s43 : ByteArray),
 Reads Try.prog (Instr.loadAt (9 : Nat) (Value.pointer (some (Addr.mk (Array.size h) (0 : Nat) none)))) h13 (Value.string s43) ∧
 br (!s42.toList == s43.toList)
 (∃ (s44 : ByteArray),
 ∃ (s45 : ByteArray),
 Reads Try.prog (Instr.loadAt (38 : Nat) (Value.pointer (some (Addr.mk (Array.size h8) (0 : Nat) none)))) h13
 (Value.agg (Array.mk [Value.string s44, Value.string s45])) ∧
 SVC Try.prog (Instr.buildSlice (22 : Nat) (1 : Nat) (Array.mk [((0 : Nat), Value.agg (Array.mk [Value.string s44, Value.string s45]))])) h13
 fun (v46 : Value) (h47 : Heap) =>
 ∃ (a48 : Option Addr),
 ∃ (k49 : Nat),
 ∃ (k50 : Nat),
 v46 = Value.slice a48 k49 k50 ∧
 SVC Try.prog (Builtin.append_ (Array.mk [(22 : Nat), (22 : Nat)]) (22 : Nat) (Array.mk [Value.slice a3 k4 k5, Value.slice a48 k49 k50]))
 h47 fun (v51 : Value) (h52 : Heap) =>
 ∃ (a53 : Option Addr),
 ∃ (k54 : Nat),
 ∃ (k55 : Nat),
 v51 = Value.slice a53 k54 k55 ∧
 I1 a53 k54 k55 b6 (IntKind.i64.wrap (n7 + (1 : Int))) h52 ∧
 I2 a53 k54 k55 b6 (IntKind.i64.wrap (n7 + (1 : Int))) h52 < I2 a3 k4 k5 b6 n7 h8)
 (I1 a3 k4 k5 b6 (IntKind.i64.wrap (n7 + (1 : Int))) h13 ∧ I2 a3 k4 k5 b6 (IntKind.i64.wrap (n7 + (1 : Int))) h13 < I2 a3 k4 k5 b6 n7 h8)))
 (br (!b6)
 (∃ (s56 : ByteArray),
 Reads Try.prog (Instr.loadAt (9 : Nat) (Value.pointer (some (Addr.mk (Array.size h) (0 : Nat) none)))) h8 (Value.string s56) ∧
 ∃ (s57 : ByteArray),
 Reads Try.prog (Instr.loadAt (9 : Nat) (Value.pointer (some ((Addr.mk (Array.size h) (0 : Nat) none).add (1 : Nat))))) h8 (Value.string s57) ∧
 SVC Try.prog (Instr.buildSlice (22 : Nat) (1 : Nat) (Array.mk [((0 : Nat), Value.agg (Array.mk [Value.string s56, Value.string s57]))])) h8 fun (v58 : Value) (h59 : Heap) =>
 ∃ (a60 : Option Addr),
 ∃ (k61 : Nat),
 ∃ (k62 : Nat),
 v58 = Value.slice a60 k61 k62 ∧
 SVC Try.prog (Builtin.append_ (Array.mk [(22 : Nat), (22 : Nat)]) (22 : Nat) (Array.mk [Value.slice a3 k4 k5, Value.slice a60 k61 k62])) h59
 fun (v63 : Value) (h64 : Heap) => ∃ (a65 : Option Addr), ∃ (k66 : Nat), ∃ (k67 : Nat), v63 = Value.slice a65 k66 k67 ∧ R (Value.slice a65 k66 k67) h64)
 (R (Value.slice a3 k4 k5) h8))) := by kernel_rfl

theorem vc29 (A0 : Option Addr) (n0 c0 : Nat) (h : Heap) (R : Value → Heap → Prop) :
    vcF Try.prog Try.f29 43 [] [] [.slice A0 n0 c0] h R =
(∃ (I0 : Option Addr → Nat → Nat → Int → Heap → Prop),
 ∃ (I1 : Option Addr → Nat → Nat → Int → Heap → Nat),
 I0 none (0 : Nat) (0 : Nat) (0 : Int) h ∧
 ∀ (a2 : Option Addr) (k3 k4 : Nat) (n5 : Int) (h6 : Heap),
 I0 a2 k3 k4 n5 h6 →
 br (decide (n5 < (↑n0 : Int)))
 (∃ (p7 : Addr),
 (A0 = some p7 ∧ (0 : Int) ≤ n5 ∧ n5 < (↑n0 : Int)) ∧
 ∃ (a8 : Option Addr),
 ∃ (k9 : Nat),
 ∃ (k10 : Nat),
 Reads Try.prog (Instr.loadAt (22 : Nat) (Value.pointer (some (p7.add (n5.toNat * (1 : Nat)))))) h6 (Value.slice a8 k9 k10) ∧
 ∃ (I11 : Option Addr → Nat → Nat → Int → Heap → Prop),
 ∃ (I12 : Option Addr → Nat → Nat → Int → Heap → Nat),
 I11 a2 k3 k4 (0 : Int) h6 ∧
 ∀ (a13 : Option Addr) (k14 k15 : Nat) (n16 : Int) (h17 : Heap),
 I11 a13 k14 k15 n16 h17 →
 br (decide (n16 < (↑k9 : Int)))
 (∃ (p18 : Addr),
 (a8 = some p18 ∧ (0 : Int) ≤ n16 ∧ n16 < (↑k9 : Int)) ∧
 ∃ (s19 : ByteArray),
 ∃ (s20 : ByteArray),
 Reads Try.prog (Instr.loadAt (38 : Nat) (Value.pointer (some (p18.add (n16.toNat * (2 : Nat)))))) h17
 (Value.agg (Array.mk [Value.string s19, Value.string s20])) ∧
 SVC Try.prog
 (Instr.storeAt (38 : Nat) (Value.pointer (some (Addr.mk (Array.size h17) (0 : Nat) none))) (Value.agg (Array.mk [Value.string s19, Value.string s20])))
 (Array.push h17 (Obj.cells (Array.mk [Value.string (ByteArray.mk (Array.mk [])), Value.string (ByteArray.mk (Array.mk []))]) (38 : Nat)))
 fun (x21 : Unit) (h22 : Heap) =>
 ∃ (s23 : ByteArray),
 Reads Try.prog (Instr.loadAt (9 : Nat) (Value.pointer (some (Addr.mk (Array.size h17) (0 : Nat) none)))) h22 (Value.string s23) ∧
 HC Try.prog (35 : Nat)
 (Array.mk [Value.slice a13 k14 k15, Value.agg (Array.mk [Value.string s23, Value.string (ByteArray.mk (Array.mk [])), Value.bool false])]) h22
 fun (v24 : Value) (h25 : Heap) =>
 ∃ (a26 : Option Addr),
 ∃ (k27 : Nat),
 ∃ (k28 : Nat),
 v24 = Value.slice a26 k27 k28 ∧
 I11 a26 k27 k28 (IntKind.i64.wrap (n16 + (1 : Int))) h25 ∧
 I12 a26 k27 k28 (IntKind.i64.wrap (n16 + (1 : Int))) h25 < I12 a13 k14 k15 n16 h17)
 (I0 a13 k14 k15 (IntKind.i64.wrap (n5 + (1 : Int))) h17 ∧ I1 a13 k14 k15 (IntKind.i64.wrap (n5 + (1 : Int))) h17 < I1 a2 k3 k4 n5 h6))
 (∃ (I29 : Option Addr → Nat → Nat → Int → Heap → Prop),
 ∃ (I30 : Option Addr → Nat → Nat → Int → Heap → Nat),
 I29 none (0 : Nat) (0 : Nat) (0 : Int) h6 ∧
 ∀ (a31 : Option Addr) (k32 k33 : Nat) (n34 : Int) (h35 : Heap),
 I29 a31 k32 k33 n34 h35 →
 br (decide (n34 < (↑k3 : Int)))
 (∃ (p36 : Addr),
 (a2 = some p36 ∧ (0 : Int) ≤ n34 ∧ n34 < (↑k3 : Int)) ∧
 ∃ (s37 : ByteArray),
 ∃ (s38 : ByteArray),
 Reads Try.prog (Instr.loadAt (38 : Nat) (Value.pointer (some (p36.add (n34.toNat * (2 : Nat)))))) h35 (Value.agg (Array.mk [Value.string s37, Value.string s38])) ∧
 SVC Try.prog (Instr.storeAt (38 : Nat) (Value.pointer (some (Addr.mk (Array.size h35) (0 : Nat) none))) (Value.agg (Array.mk [Value.string s37, Value.string s38])))
 (Array.push h35 (Obj.cells (Array.mk [Value.string (ByteArray.mk (Array.mk [])), Value.string (ByteArray.mk (Array.mk []))]) (38 : Nat)))
 fun (x39 : Unit) (h40 : Heap) =>
 ∃ (s41 : ByteArray),
 Reads Try.prog (Instr.loadAt (9 : Nat) (Value.pointer (some (Addr.mk (Array.size h35) (0 : Nat) none)))) h40 (Value.string s41) ∧
 SVC Try.prog (Instr.buildSlice (29 : Nat) (1 : Nat) (Array.mk [((0 : Nat), Value.string s41)])) h40 fun (v42 : Value) (h43 : Heap) =>
 ∃ (a44 : Option Addr),
 ∃ (k45 : Nat),
 ∃ (k46 : Nat),
 v42 = Value.slice a44 k45 k46 ∧
 SVC Try.prog (Builtin.append_ (Array.mk [(29 : Nat), (29 : Nat)]) (29 : Nat) (Array.mk [Value.slice a31 k32 k33, Value.slice a44 k45 k46])) h43
 fun (v47 : Value) (h48 : Heap) =>
 ∃ (a49 : Option Addr),
 ∃ (k50 : Nat),
 ∃ (k51 : Nat),
 v47 = Value.slice a49 k50 k51 ∧
 I29 a49 k50 k51 (IntKind.i64.wrap (n34 + (1 : Int))) h48 ∧
 I30 a49 k50 k51 (IntKind.i64.wrap (n34 + (1 : Int))) h48 < I30 a31 k32 k33 n34 h35)
 (R (Value.slice a31 k32 k33) h35))) := by kernel_rfl

theorem vc17 (A0 : Option Addr) (n0 c0 : Nat) (A1 : Option Addr) (n1 c1 : Nat) (h : Heap) (R : Value → Heap → Prop) :
    vcF Try.prog Try.f17 54 [] [] [.slice A0 n0 c0, .slice A1 n1 c1] h R =
(SVC Try.prog (Instr.buildSlice (61 : Nat) (2 : Nat) (Array.mk [((0 : Nat), Value.slice A0 n0 c0), ((1 : Nat), Value.slice A1 n1 c1)])) h fun (v0 : Value) (h1 : Heap) =>
 ∃ (a2 : Option Addr),
 ∃ (k3 : Nat),
 ∃ (k4 : Nat),
 v0 = Value.slice a2 k3 k4 ∧
 HC Try.prog (29 : Nat) (Array.mk [Value.slice a2 k3 k4]) h1 fun (v5 : Value) (h6 : Heap) =>
 ∃ (a7 : Option Addr),
 ∃ (k8 : Nat),
 ∃ (k9 : Nat),
 v5 = Value.slice a7 k8 k9 ∧
 ∃ (I10 : Option Addr → Nat → Nat → Int → Heap → Prop),
 ∃ (I11 : Option Addr → Nat → Nat → Int → Heap → Nat),
 I10 none (0 : Nat) (0 : Nat) (0 : Int) h6 ∧
 ∀ (a12 : Option Addr) (k13 k14 : Nat) (n15 : Int) (h16 : Heap),
 I10 a12 k13 k14 n15 h16 →
 br (decide (n15 < (↑k8 : Int)))
 (∃ (p17 : Addr),
 (a7 = some p17 ∧ (0 : Int) ≤ n15 ∧ n15 < (↑k8 : Int)) ∧
 ∃ (s18 : ByteArray),
 Reads Try.prog (Instr.loadAt (9 : Nat) (Value.pointer (some (p17.add (n15.toNat * (1 : Nat)))))) h16 (Value.string s18) ∧
 SVC Try.prog
 (Instr.storeAt (40 : Nat) (Value.pointer (some (Addr.mk (Array.size h16) (0 : Nat) none)))
 (Value.agg
 (Array.mk [Value.string s18, Value.string (ByteArray.mk (Array.mk [])), Value.string (ByteArray.mk (Array.mk [])), Value.bool false, Value.bool false])))
 (Array.push h16
 (Obj.cells
 (Array.mk
 [Value.string (ByteArray.mk (Array.mk [])), Value.string (ByteArray.mk (Array.mk [])), Value.string (ByteArray.mk (Array.mk [])), Value.bool false,
 Value.bool false])
 (40 : Nat)))
 fun (x19 : Unit) (h20 : Heap) =>
 HC Try.prog (24 : Nat) (Array.mk [Value.slice A0 n0 c0, Value.string s18]) h20 fun (v21 : Value) (h22 : Heap) =>
 ∃ (s23 : ByteArray),
 ∃ (b24 : Bool),
 v21 = Value.tuple (Array.mk [Value.string s23, Value.bool b24]) ∧
 SVC Try.prog (Instr.storeAt (9 : Nat) (Value.pointer (some ((Addr.mk (Array.size h16) (0 : Nat) none).add (1 : Nat)))) (Value.string s23)) h22
 fun (x25 : Unit) (h26 : Heap) =>
 SVC Try.prog (Instr.storeAt (4 : Nat) (Value.pointer (some ((Addr.mk (Array.size h16) (0 : Nat) none).add (3 : Nat)))) (Value.bool b24)) h26
 fun (x27 : Unit) (h28 : Heap) =>
 HC Try.prog (24 : Nat) (Array.mk [Value.slice A1 n1 c1, Value.string s18]) h28 fun (v29 : Value) (h30 : Heap) =>
 ∃ (s31 : ByteArray),
 ∃ (b32 : Bool),
 v29 = Value.tuple (Array.mk [Value.string s31, Value.bool b32]) ∧
 SVC Try.prog (Instr.storeAt (9 : Nat) (Value.pointer (some ((Addr.mk (Array.size h16) (0 : Nat) none).add (2 : Nat)))) (Value.string s31))
 h30 fun (x33 : Unit) (h34 : Heap) =>
 SVC Try.prog (Instr.storeAt (4 : Nat) (Value.pointer (some ((Addr.mk (Array.size h16) (0 : Nat) none).add (4 : Nat)))) (Value.bool b32))
 h34 fun (x35 : Unit) (h36 : Heap) =>
 ∃ (s37 : ByteArray),
 Reads Try.prog (Instr.loadAt (9 : Nat) (Value.pointer (some ((Addr.mk (Array.size h16) (0 : Nat) none).add (1 : Nat))))) h36
 (Value.string s37) ∧
 ∃ (s38 : ByteArray),
 Reads Try.prog (Instr.loadAt (9 : Nat) (Value.pointer (some ((Addr.mk (Array.size h16) (0 : Nat) none).add (2 : Nat))))) h36
 (Value.string s38) ∧
 ∃ (b39 : Bool),
 ((!!s37.toList == s38.toList) = true →
 Reads Try.prog (Instr.loadAt (4 : Nat) (Value.pointer (some ((Addr.mk (Array.size h16) (0 : Nat) none).add (3 : Nat)))))
 h36 (Value.bool b39)) ∧
 ∃ (b40 : Bool),
 ((!!s37.toList == s38.toList) = true →
 Reads Try.prog
 (Instr.loadAt (4 : Nat) (Value.pointer (some ((Addr.mk (Array.size h16) (0 : Nat) none).add (4 : Nat))))) h36
 (Value.bool b40)) ∧
 ∃ (b41 : Bool),
 ((!!s37.toList == s38.toList) = true →
 Reads Try.prog
 (eqSem BinOp.neq (4 : Nat) (Operand.tmp (43 : Nat)) (Operand.tmp (45 : Nat)) (Value.bool b39)
 (Value.bool b40))
 h36 (Value.bool b41)) ∧
 br (!s37.toList == s38.toList || b41)
 (∃ (s42 : ByteArray),
 ∃ (s43 : ByteArray),
 ∃ (s44 : ByteArray),
 ∃ (b45 : Bool),
 ∃ (b46 : Bool),
 Reads Try.prog
 (Instr.loadAt (40 : Nat) (Value.pointer (some (Addr.mk (Array.size h16) (0 : Nat) none)))) h36
 (Value.agg
 (Array.mk
 [Value.string s42, Value.string s43, Value.string s44, Value.bool b45, Value.bool b46])) ∧
 SVC Try.prog
 (Instr.buildSlice (26 : Nat) (1 : Nat)
 (Array.mk
 [((0 : Nat),
 Value.agg
 (Array.mk
 [Value.string s42, Value.string s43, Value.string s44, Value.bool b45,
 Value.bool b46]))]))
 h36 fun (v47 : Value) (h48 : Heap) =>
 ∃ (a49 : Option Addr),
 ∃ (k50 : Nat),
 ∃ (k51 : Nat),
 v47 = Value.slice a49 k50 k51 ∧
 SVC Try.prog
 (Builtin.append_ (Array.mk [(26 : Nat), (26 : Nat)]) (26 : Nat)
 (Array.mk [Value.slice a12 k13 k14, Value.slice a49 k50 k51]))
 h48 fun (v52 : Value) (h53 : Heap) =>
 ∃ (a54 : Option Addr),
 ∃ (k55 : Nat),
 ∃ (k56 : Nat),
 v52 = Value.slice a54 k55 k56 ∧
 I10 a54 k55 k56 (IntKind.i64.wrap (n15 + (1 : Int))) h53 ∧
 I11 a54 k55 k56 (IntKind.i64.wrap (n15 + (1 : Int))) h53 <
 I11 a12 k13 k14 n15 h16)
 (I10 a12 k13 k14 (IntKind.i64.wrap (n15 + (1 : Int))) h36 ∧
 I11 a12 k13 k14 (IntKind.i64.wrap (n15 + (1 : Int))) h36 < I11 a12 k13 k14 n15 h16))
 (R (Value.slice a12 k13 k14) h16)) := by kernel_rfl

theorem vc13 (h : Heap) (R : Value → Heap → Prop) :
    vcF Try.prog Try.f13 24 [] [] [] h R =
(SVC Try.prog
 (Instr.buildSlice (22 : Nat) (1 : Nat) (Array.mk [((0 : Nat), Value.agg (Array.mk [Value.string (ByteArray.mk (Array.mk [(97 : UInt8)])), Value.string (ByteArray.mk (Array.mk [(49 : UInt8)]))]))]))
 h fun (v0 : Value) (h1 : Heap) =>
 ∃ (a2 : Option Addr),
 ∃ (k3 : Nat),
 ∃ (k4 : Nat),
 v0 = Value.slice a2 k3 k4 ∧
 SVC Try.prog
 (Instr.buildSlice (22 : Nat) (1 : Nat)
 (Array.mk [((0 : Nat), Value.agg (Array.mk [Value.string (ByteArray.mk (Array.mk [(98 : UInt8)])), Value.string (ByteArray.mk (Array.mk [(50 : UInt8)]))]))]))
 h1 fun (v5 : Value) (h6 : Heap) =>
 ∃ (a7 : Option Addr),
 ∃ (k8 : Nat),
 ∃ (k9 : Nat),
 v5 = Value.slice a7 k8 k9 ∧
 HC Try.prog (16 : Nat) (Array.mk [Value.slice a2 k3 k4, Value.slice a7 k8 k9]) h6 fun (v10 : Value) (h11 : Heap) =>
 ∃ (a12 : Option Addr),
 ∃ (k13 : Nat),
 ∃ (k14 : Nat),
 v10 = Value.slice a12 k13 k14 ∧
 ∃ (p15 : Addr),
 (((↑k13 : Int) == (2 : Int)) = true → a12 = some p15 ∧ (0 : Int) ≤ (0 : Int) ∧ (0 : Int) < (↑k13 : Int)) ∧
 ∃ (s16 : ByteArray),
 ∃ (s17 : ByteArray),
 ∃ (s18 : ByteArray),
 ∃ (b19 : Bool),
 ∃ (b20 : Bool),
 (((↑k13 : Int) == (2 : Int)) = true →
 Reads Try.prog (Instr.loadAt (40 : Nat) (Value.pointer (some p15))) h11
 (Value.agg (Array.mk [Value.string s16, Value.string s17, Value.string s18, Value.bool b19, Value.bool b20]))) ∧
 ∃ (b21 : Bool),
 (((↑k13 : Int) == (2 : Int)) = true →
 Reads Try.prog
 (eqSem BinOp.eql (40 : Nat) (Operand.tmp (13 : Nat)) (Operand.tmp (14 : Nat))
 (Value.agg (Array.mk [Value.string s16, Value.string s17, Value.string s18, Value.bool b19, Value.bool b20]))
 (Value.agg
 (Array.mk
 [Value.string (ByteArray.mk (Array.mk [(97 : UInt8)])), Value.string (ByteArray.mk (Array.mk [(49 : UInt8)])),
 Value.string (ByteArray.mk (Array.mk [])), Value.bool true, Value.bool false])))
 h11 (Value.bool b21)) ∧
 ∃ (p22 : Addr),
 (((↑k13 : Int) == (2 : Int) && b21) = true → a12 = some p22 ∧ (0 : Int) ≤ (1 : Int) ∧ (1 : Int) < (↑k13 : Int)) ∧
 ∃ (s23 : ByteArray),
 ∃ (s24 : ByteArray),
 ∃ (s25 : ByteArray),
 ∃ (b26 : Bool),
 ∃ (b27 : Bool),
 (((↑k13 : Int) == (2 : Int) && b21) = true →
 Reads Try.prog (Instr.loadAt (40 : Nat) (Value.pointer (some (p22.add (5 : Nat))))) h11
 (Value.agg (Array.mk [Value.string s23, Value.string s24, Value.string s25, Value.bool b26, Value.bool b27]))) ∧
 ∃ (b28 : Bool),
 (((↑k13 : Int) == (2 : Int) && b21) = true →
 Reads Try.prog
 (eqSem BinOp.eql (40 : Nat) (Operand.tmp (20 : Nat)) (Operand.tmp (21 : Nat))
 (Value.agg (Array.mk [Value.string s23, Value.string s24, Value.string s25, Value.bool b26, Value.bool b27]))
 (Value.agg
 (Array.mk
 [Value.string (ByteArray.mk (Array.mk [(98 : UInt8)])), Value.string (ByteArray.mk (Array.mk [])),
 Value.string (ByteArray.mk (Array.mk [(50 : UInt8)])), Value.bool false, Value.bool true])))
 h11 (Value.bool b28)) ∧
 R (Value.bool ((↑k13 : Int) == (2 : Int) && b21 && b28)) h11) := by kernel_rfl

theorem vc3 (A0 : Option Addr) (n0 c0 : Nat) (A1 : Option Addr) (n1 c1 : Nat) (h : Heap) (R : Value → Heap → Prop) :
    vcF Try.prog Try.f3 27 [] [] [.slice A0 n0 c0, .slice A1 n1 c1] h R =
(HC Try.prog (13 : Nat) (Array.mk []) h fun (v0 : Value) (h1 : Heap) =>
 ∃ (b2 : Bool),
 v0 = Value.bool b2 ∧
 br (!b2) (R (Value.bool false) h1)
 (HC Try.prog (14 : Nat) (Array.mk [Value.slice A0 n0 c0]) h1 fun (v3 : Value) (h4 : Heap) =>
 ∃ (b5 : Bool),
 v3 = Value.bool b5 ∧
 br (bif b5 then false else true)
 (HC Try.prog (14 : Nat) (Array.mk [Value.slice A1 n1 c1]) h4 fun (v6 : Value) (h7 : Heap) =>
 ∃ (b8 : Bool),
 v6 = Value.bool b8 ∧
 br b8 (R (Value.bool true) h7)
 (HC Try.prog (16 : Nat) (Array.mk [Value.slice A0 n0 c0, Value.slice A1 n1 c1]) h7 fun (v9 : Value) (h10 : Heap) =>
 ∃ (a11 : Option Addr),
 ∃ (k12 : Nat),
 ∃ (k13 : Nat),
 v9 = Value.slice a11 k12 k13 ∧
 HC Try.prog (17 : Nat) (Array.mk [Value.slice A0 n0 c0, Value.slice A1 n1 c1]) h10 fun (v14 : Value) (h15 : Heap) =>
 ∃ (a16 : Option Addr),
 ∃ (k17 : Nat),
 ∃ (k18 : Nat),
 v14 = Value.slice a16 k17 k18 ∧
 HC Try.prog (15 : Nat) (Array.mk [Value.slice a11 k12 k13, Value.slice a16 k17 k18]) h15 fun (v19 : Value) (h20 : Heap) =>
 ∃ (b21 : Bool),
 v19 = Value.bool b21 ∧
 br b21
 (HC Try.prog (16 : Nat) (Array.mk [Value.slice A0 n0 c0, Value.slice A0 n0 c0]) h20 fun (v22 : Value) (h23 : Heap) =>
 ∃ (a24 : Option Addr), ∃ (k25 : Nat), ∃ (k26 : Nat), v22 = Value.slice a24 k25 k26 ∧ R (Value.bool ((↑k25 : Int) == (0 : Int))) h23)
 (R (Value.bool false) h20)))
 (R (Value.bool true) h4))) := by kernel_rfl

theorem vc32 (A0 : Option Addr) (n0 c0 : Nat) (s : ByteArray) (h : Heap) (R : Value → Heap → Prop) :
    vcF Try.prog Try.f32 19 [] [] [.slice A0 n0 c0, .string s] h R =
(∃ (p0 : Addr),
 (decide ((↑n0 : Int) > (0 : Int)) = true → A0 = some p0 ∧ (0 : Int) ≤ (0 : Int) ∧ (0 : Int) < (↑n0 : Int)) ∧
 ∃ (s1 : ByteArray),
 (decide ((↑n0 : Int) > (0 : Int)) = true → Reads Try.prog (Instr.loadAt (9 : Nat) (Value.pointer (some p0))) h (Value.string s1)) ∧
 br (decide ((↑n0 : Int) > (0 : Int)) && s1.toList == s.toList)
 (((0 : Int) ≤ (1 : Int) ∧ (1 : Int) ≤ (↑n0 : Int) ∧ (↑n0 : Int) ≤ (↑c0 : Int) ∧ (↑c0 : Int) ≤ (↑c0 : Int)) ∧
 R (Value.slice (subA A0 (1 : Nat) c0 (2 : Nat)) (n0 - (1 : Nat)) (c0 - (1 : Nat))) h)
 (R (Value.slice A0 n0 c0) h)) := by kernel_rfl

theorem vc31 (A0 : Option Addr) (n0 c0 : Nat) (h : Heap) (R : Value → Heap → Prop) :
    vcF Try.prog Try.f31 36 [] [] [.slice A0 n0 c0] h R =
(∃ (I0 : ByteArray → Bool → Int → Heap → Prop),
 ∃ (I1 : ByteArray → Bool → Int → Heap → Nat),
 I0 (ByteArray.mk (Array.mk [])) false (0 : Int) h ∧
 ∀ (s2 : ByteArray) (b3 : Bool) (n4 : Int) (h5 : Heap),
 I0 s2 b3 n4 h5 →
 br (decide (n4 < (↑n0 : Int)))
 (∃ (p6 : Addr),
 (A0 = some p6 ∧ (0 : Int) ≤ n4 ∧ n4 < (↑n0 : Int)) ∧
 ∃ (a7 : Option Addr),
 ∃ (k8 : Nat),
 ∃ (k9 : Nat),
 Reads Try.prog (Instr.loadAt (22 : Nat) (Value.pointer (some (p6.add (n4.toNat * (1 : Nat)))))) h5 (Value.slice a7 k8 k9) ∧
 ∃ (p10 : Addr),
 ((!!b3 && decide ((↑k8 : Int) > (0 : Int))) = true → a7 = some p10 ∧ (0 : Int) ≤ (0 : Int) ∧ (0 : Int) < (↑k8 : Int)) ∧
 ∃ (s11 : ByteArray),
 ((!!b3 && decide ((↑k8 : Int) > (0 : Int))) = true → Reads Try.prog (Instr.loadAt (9 : Nat) (Value.pointer (some p10))) h5 (Value.string s11)) ∧
 br (decide ((↑k8 : Int) > (0 : Int)) && (!b3 || Op.bytesLess s11.toList s2.toList))
 (∃ (p12 : Addr),
 (a7 = some p12 ∧ (0 : Int) ≤ (0 : Int) ∧ (0 : Int) < (↑k8 : Int)) ∧
 ∃ (s13 : ByteArray),
 Reads Try.prog (Instr.loadAt (9 : Nat) (Value.pointer (some p12))) h5 (Value.string s13) ∧
 I0 s13 true (IntKind.i64.wrap (n4 + (1 : Int))) h5 ∧ I1 s13 true (IntKind.i64.wrap (n4 + (1 : Int))) h5 < I1 s2 b3 n4 h5)
 (I0 s2 b3 (IntKind.i64.wrap (n4 + (1 : Int))) h5 ∧ I1 s2 b3 (IntKind.i64.wrap (n4 + (1 : Int))) h5 < I1 s2 b3 n4 h5))
 (R (Value.tuple (Array.mk [Value.string s2, Value.bool b3])) h5)) := by kernel_rfl

theorem vc16 (A0 : Option Addr) (n0 c0 : Nat) (A1 : Option Addr) (n1 c1 : Nat) (h : Heap) (R : Value → Heap → Prop) :
    vcF Try.prog Try.f16 107 [] [] [.slice A0 n0 c0, .slice A1 n1 c1] h R =
(∃ (I0 : Option Addr → Nat → Nat → Option Addr → Nat → Nat → Option Addr → Nat → Nat → Heap → Prop),
 ∃ (I1 : Option Addr → Nat → Nat → Option Addr → Nat → Nat → Option Addr → Nat → Nat → Heap → Nat),
 I0 A0 n0 c0 A1 n1 c1 none (0 : Nat) (0 : Nat) h ∧
 ∀ (a2 : Option Addr) (k3 k4 : Nat) (a5 : Option Addr) (k6 k7 : Nat) (a8 : Option Addr) (k9 k10 : Nat) (h11 : Heap),
 I0 a2 k3 k4 a5 k6 k7 a8 k9 k10 h11 →
 br (decide ((↑k3 : Int) > (0 : Int)) || decide ((↑k6 : Int) > (0 : Int)))
 (∃ (p12 : Addr),
 ((decide ((↑k3 : Int) > (0 : Int)) && !(↑k6 : Int) == (0 : Int)) = true → a2 = some p12 ∧ (0 : Int) ≤ (0 : Int) ∧ (0 : Int) < (↑k3 : Int)) ∧
 ∃ (s13 : ByteArray),
 ((decide ((↑k3 : Int) > (0 : Int)) && !(↑k6 : Int) == (0 : Int)) = true → Reads Try.prog (Instr.loadAt (9 : Nat) (Value.pointer (some p12))) h11 (Value.string s13)) ∧
 ∃ (p14 : Addr),
 ((decide ((↑k3 : Int) > (0 : Int)) && !(↑k6 : Int) == (0 : Int)) = true → a5 = some p14 ∧ (0 : Int) ≤ (0 : Int) ∧ (0 : Int) < (↑k6 : Int)) ∧
 ∃ (s15 : ByteArray),
 ((decide ((↑k3 : Int) > (0 : Int)) && !(↑k6 : Int) == (0 : Int)) = true → Reads Try.prog (Instr.loadAt (9 : Nat) (Value.pointer (some p14))) h11 (Value.string s15)) ∧
 br ((↑k6 : Int) == (0 : Int) || decide ((↑k3 : Int) > (0 : Int)) && Op.bytesLess s13.toList s15.toList)
 (∃ (p16 : Addr),
 (a2 = some p16 ∧ (0 : Int) ≤ (0 : Int) ∧ (0 : Int) < (↑k3 : Int)) ∧
 ∃ (s17 : ByteArray),
 Reads Try.prog (Instr.loadAt (9 : Nat) (Value.pointer (some p16))) h11 (Value.string s17) ∧
 ∃ (p18 : Addr),
 (a2 = some p18 ∧ (0 : Int) ≤ (0 : Int) ∧ (0 : Int) < (↑k3 : Int)) ∧
 ∃ (s19 : ByteArray),
 Reads Try.prog (Instr.loadAt (9 : Nat) (Value.pointer (some (p18.add (1 : Nat))))) h11 (Value.string s19) ∧
 SVC Try.prog
 (Instr.buildSlice (26 : Nat) (1 : Nat)
 (Array.mk
 [((0 : Nat),
 Value.agg (Array.mk [Value.string s17, Value.string s19, Value.string (ByteArray.mk (Array.mk [])), Value.bool true, Value.bool false]))]))
 h11 fun (v20 : Value) (h21 : Heap) =>
 ∃ (a22 : Option Addr),
 ∃ (k23 : Nat),
 ∃ (k24 : Nat),
 v20 = Value.slice a22 k23 k24 ∧
 SVC Try.prog (Builtin.append_ (Array.mk [(26 : Nat), (26 : Nat)]) (26 : Nat) (Array.mk [Value.slice a8 k9 k10, Value.slice a22 k23 k24])) h21
 fun (v25 : Value) (h26 : Heap) =>
 ∃ (a27 : Option Addr),
 ∃ (k28 : Nat),
 ∃ (k29 : Nat),
 v25 = Value.slice a27 k28 k29 ∧
 ((0 : Int) ≤ (1 : Int) ∧ (1 : Int) ≤ (↑k3 : Int) ∧ (↑k3 : Int) ≤ (↑k4 : Int) ∧ (↑k4 : Int) ≤ (↑k4 : Int)) ∧
 I0 (subA a2 (1 : Nat) k4 (2 : Nat)) (k3 - (1 : Nat)) (k4 - (1 : Nat)) a5 k6 k7 a27 k28 k29 h26 ∧
 I1 (subA a2 (1 : Nat) k4 (2 : Nat)) (k3 - (1 : Nat)) (k4 - (1 : Nat)) a5 k6 k7 a27 k28 k29 h26 <
 I1 a2 k3 k4 a5 k6 k7 a8 k9 k10 h11)
 (∃ (p30 : Addr),
 ((!(↑k3 : Int) == (0 : Int)) = true → a5 = some p30 ∧ (0 : Int) ≤ (0 : Int) ∧ (0 : Int) < (↑k6 : Int)) ∧
 ∃ (s31 : ByteArray),
 ((!(↑k3 : Int) == (0 : Int)) = true → Reads Try.prog (Instr.loadAt (9 : Nat) (Value.pointer (some p30))) h11 (Value.string s31)) ∧
 ∃ (p32 : Addr),
 ((!(↑k3 : Int) == (0 : Int)) = true → a2 = some p32 ∧ (0 : Int) ≤ (0 : Int) ∧ (0 : Int) < (↑k3 : Int)) ∧
 ∃ (s33 : ByteArray),
 ((!(↑k3 : Int) == (0 : Int)) = true → Reads Try.prog (Instr.loadAt (9 : Nat) (Value.pointer (some p32))) h11 (Value.string s33)) ∧
 br ((↑k3 : Int) == (0 : Int) || Op.bytesLess s31.toList s33.toList)
 (∃ (p34 : Addr),
 (a5 = some p34 ∧ (0 : Int) ≤ (0 : Int) ∧ (0 : Int) < (↑k6 : Int)) ∧
 ∃ (s35 : ByteArray),
 Reads Try.prog (Instr.loadAt (9 : Nat) (Value.pointer (some p34))) h11 (Value.string s35) ∧
 ∃ (p36 : Addr),
 (a5 = some p36 ∧ (0 : Int) ≤ (0 : Int) ∧ (0 : Int) < (↑k6 : Int)) ∧
 ∃ (s37 : ByteArray),
 Reads Try.prog (Instr.loadAt (9 : Nat) (Value.pointer (some (p36.add (1 : Nat))))) h11 (Value.string s37) ∧
 SVC Try.prog
 (Instr.buildSlice (26 : Nat) (1 : Nat)
 (Array.mk
 [((0 : Nat),
 Value.agg
 (Array.mk
 [Value.string s35, Value.string (ByteArray.mk (Array.mk [])), Value.string s37, Value.bool false, Value.bool true]))]))
 h11 fun (v38 : Value) (h39 : Heap) =>
 ∃ (a40 : Option Addr),
 ∃ (k41 : Nat),
 ∃ (k42 : Nat),
 v38 = Value.slice a40 k41 k42 ∧
 SVC Try.prog
 (Builtin.append_ (Array.mk [(26 : Nat), (26 : Nat)]) (26 : Nat) (Array.mk [Value.slice a8 k9 k10, Value.slice a40 k41 k42]))
 h39 fun (v43 : Value) (h44 : Heap) =>
 ∃ (a45 : Option Addr),
 ∃ (k46 : Nat),
 ∃ (k47 : Nat),
 v43 = Value.slice a45 k46 k47 ∧
 ((0 : Int) ≤ (1 : Int) ∧ (1 : Int) ≤ (↑k6 : Int) ∧ (↑k6 : Int) ≤ (↑k7 : Int) ∧ (↑k7 : Int) ≤ (↑k7 : Int)) ∧
 I0 a2 k3 k4 (subA a5 (1 : Nat) k7 (2 : Nat)) (k6 - (1 : Nat)) (k7 - (1 : Nat)) a45 k46 k47 h44 ∧
 I1 a2 k3 k4 (subA a5 (1 : Nat) k7 (2 : Nat)) (k6 - (1 : Nat)) (k7 - (1 : Nat)) a45 k46 k47 h44 <
 I1 a2 k3 k4 a5 k6 k7 a8 k9 k10 h11)
 (∃ (p48 : Addr),
 (a2 = some p48 ∧ (0 : Int) ≤ (0 : Int) ∧ (0 : Int) < (↑k3 : Int)) ∧
 ∃ (s49 : ByteArray),
 Reads Try.prog (Instr.loadAt (9 : Nat) (Value.pointer (some (p48.add (1 : Nat))))) h11 (Value.string s49) ∧
 ∃ (p50 : Addr),
 (a5 = some p50 ∧ (0 : Int) ≤ (0 : Int) ∧ (0 : Int) < (↑k6 : Int)) ∧
 ∃ (s51 : ByteArray),
 Reads Try.prog (Instr.loadAt (9 : Nat) (Value.pointer (some (p50.add (1 : Nat))))) h11 (Value.string s51) ∧
 br (!s49.toList == s51.toList)
 (∃ (p52 : Addr),
 (a2 = some p52 ∧ (0 : Int) ≤ (0 : Int) ∧ (0 : Int) < (↑k3 : Int)) ∧
 ∃ (s53 : ByteArray),
 Reads Try.prog (Instr.loadAt (9 : Nat) (Value.pointer (some p52))) h11 (Value.string s53) ∧
 ∃ (p54 : Addr),
 (a2 = some p54 ∧ (0 : Int) ≤ (0 : Int) ∧ (0 : Int) < (↑k3 : Int)) ∧
 ∃ (s55 : ByteArray),
 Reads Try.prog (Instr.loadAt (9 : Nat) (Value.pointer (some (p54.add (1 : Nat))))) h11 (Value.string s55) ∧
 ∃ (p56 : Addr),
 (a5 = some p56 ∧ (0 : Int) ≤ (0 : Int) ∧ (0 : Int) < (↑k6 : Int)) ∧
 ∃ (s57 : ByteArray),
 Reads Try.prog (Instr.loadAt (9 : Nat) (Value.pointer (some (p56.add (1 : Nat))))) h11 (Value.string s57) ∧
 SVC Try.prog
 (Instr.buildSlice (26 : Nat) (1 : Nat)
 (Array.mk
 [((0 : Nat),
 Value.agg
 (Array.mk
 [Value.string s53, Value.string s55, Value.string s57, Value.bool true, Value.bool true]))]))
 h11 fun (v58 : Value) (h59 : Heap) =>
 ∃ (a60 : Option Addr),
 ∃ (k61 : Nat),
 ∃ (k62 : Nat),
 v58 = Value.slice a60 k61 k62 ∧
 SVC Try.prog
 (Builtin.append_ (Array.mk [(26 : Nat), (26 : Nat)]) (26 : Nat)
 (Array.mk [Value.slice a8 k9 k10, Value.slice a60 k61 k62]))
 h59 fun (v63 : Value) (h64 : Heap) =>
 ∃ (a65 : Option Addr),
 ∃ (k66 : Nat),
 ∃ (k67 : Nat),
 v63 = Value.slice a65 k66 k67 ∧
 ((0 : Int) ≤ (1 : Int) ∧
 (1 : Int) ≤ (↑k3 : Int) ∧ (↑k3 : Int) ≤ (↑k4 : Int) ∧ (↑k4 : Int) ≤ (↑k4 : Int)) ∧
 ((0 : Int) ≤ (1 : Int) ∧
 (1 : Int) ≤ (↑k6 : Int) ∧ (↑k6 : Int) ≤ (↑k7 : Int) ∧ (↑k7 : Int) ≤ (↑k7 : Int)) ∧
 I0 (subA a2 (1 : Nat) k4 (2 : Nat)) (k3 - (1 : Nat)) (k4 - (1 : Nat))
 (subA a5 (1 : Nat) k7 (2 : Nat)) (k6 - (1 : Nat)) (k7 - (1 : Nat)) a65 k66 k67
 h64 ∧
 I1 (subA a2 (1 : Nat) k4 (2 : Nat)) (k3 - (1 : Nat)) (k4 - (1 : Nat))
 (subA a5 (1 : Nat) k7 (2 : Nat)) (k6 - (1 : Nat)) (k7 - (1 : Nat)) a65 k66 k67
 h64 <
 I1 a2 k3 k4 a5 k6 k7 a8 k9 k10 h11)
 (((0 : Int) ≤ (1 : Int) ∧ (1 : Int) ≤ (↑k3 : Int) ∧ (↑k3 : Int) ≤ (↑k4 : Int) ∧ (↑k4 : Int) ≤ (↑k4 : Int)) ∧
 ((0 : Int) ≤ (1 : Int) ∧ (1 : Int) ≤ (↑k6 : Int) ∧ (↑k6 : Int) ≤ (↑k7 : Int) ∧ (↑k7 : Int) ≤ (↑k7 : Int)) ∧
 I0 (subA a2 (1 : Nat) k4 (2 : Nat)) (k3 - (1 : Nat)) (k4 - (1 : Nat)) (subA a5 (1 : Nat) k7 (2 : Nat)) (k6 - (1 : Nat))
 (k7 - (1 : Nat)) a8 k9 k10 h11 ∧
 I1 (subA a2 (1 : Nat) k4 (2 : Nat)) (k3 - (1 : Nat)) (k4 - (1 : Nat)) (subA a5 (1 : Nat) k7 (2 : Nat)) (k6 - (1 : Nat))
 (k7 - (1 : Nat)) a8 k9 k10 h11 <
 I1 a2 k3 k4 a5 k6 k7 a8 k9 k10 h11))))
 (R (Value.slice a8 k9 k10) h11)) := by kernel_rfl
end Go.Proofs.Ytepnckpaknabpaa
