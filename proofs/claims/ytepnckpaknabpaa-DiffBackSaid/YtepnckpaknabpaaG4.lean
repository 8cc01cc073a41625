/-
  What a call of each function comes to, as the symbolic run tells it: by the kernel's own reckoning. Conditions: none.
-/
import Derived.Test.YtepnckpaknabpaaVcE
import Derived.Test.YtepnckpaknabpaaProg
import Derived.KernelRfl
set_option linter.unusedVariables false
set_option maxRecDepth 100000
namespace Go.Proofs.Ytepnckpaknabpaa
open Go Go.Vc Go.Proofs

theorem vc30 (A0 : Option Addr) (n0 c0 : Nat) (h : Heap) (R : Value → Heap → Prop) :
    vcF Try.prog Try.f30 21 [] [] [.slice A0 n0 c0] h R =
(∃ (I0 : Int → Heap → Prop),
 ∃ (I1 : Int → Heap → Nat),
 I0 (0 : Int) (Array.push h (Obj.map (Array.mk []) (0 : Nat))) ∧
 ∀ (n2 : Int) (h3 : Heap),
 I0 n2 h3 →
 br (decide (n2 < (↑n0 : Int)))
 (∃ (p4 : Addr),
 (A0 = some p4 ∧ (0 : Int) ≤ n2 ∧ n2 < (↑n0 : Int)) ∧
 ∃ (s5 : ByteArray),
 ∃ (s6 : ByteArray),
 Reads Try.prog (Instr.loadAt (38 : Nat) (Value.pointer (some (p4.add (n2.toNat * (2 : Nat)))))) h3 (Value.agg (Array.mk [Value.string s5, Value.string s6])) ∧
 SVC Try.prog (Instr.storeAt (38 : Nat) (Value.pointer (some (Addr.mk (Array.size h3) (0 : Nat) none))) (Value.agg (Array.mk [Value.string s5, Value.string s6])))
 (Array.push h3 (Obj.cells (Array.mk [Value.string (ByteArray.mk (Array.mk [])), Value.string (ByteArray.mk (Array.mk []))]) (38 : Nat))) fun (x7 : Unit) (h8 : Heap) =>
 ∃ (s9 : ByteArray),
 Reads Try.prog (Instr.loadAt (9 : Nat) (Value.pointer (some (Addr.mk (Array.size h3) (0 : Nat) none)))) h8 (Value.string s9) ∧
 ∃ (s10 : ByteArray),
 Reads Try.prog (Instr.loadAt (9 : Nat) (Value.pointer (some ((Addr.mk (Array.size h3) (0 : Nat) none).add (1 : Nat))))) h8 (Value.string s10) ∧
 SVC Try.prog (Instr.mapUpdate (49 : Nat) (Value.map (some (Array.size h))) (Value.string s9) (Value.agg (Array.mk [Value.string s10, Value.bool true]))) h8
 fun (x11 : Unit) (h12 : Heap) => I0 (IntKind.i64.wrap (n2 + (1 : Int))) h12 ∧ I1 (IntKind.i64.wrap (n2 + (1 : Int))) h12 < I1 n2 h3)
 (R (Value.map (some (Array.size h))) h3)) := by kernel_rfl

theorem vc20 (A0 : Option Addr) (n0 c0 : Nat) (A1 : Option Addr) (n1 c1 : Nat) (A2 : Option Addr) (n2 c2 : Nat) (h : Heap) (R : Value → Heap → Prop) :
    vcF Try.prog Try.f20 90 [12] [] [.slice A0 n0 c0, .slice A1 n1 c1, .slice A2 n2 c2] h R =
(HC Try.prog (30 : Nat) (Array.mk [Value.slice A0 n0 c0]) h fun (v0 : Value) (h1 : Heap) =>
 ∃ (a2 : Option Nat),
 v0 = Value.map a2 ∧
 HC Try.prog (30 : Nat) (Array.mk [Value.slice A1 n1 c1]) h1 fun (v3 : Value) (h4 : Heap) =>
 ∃ (a5 : Option Nat),
 v3 = Value.map a5 ∧
 HC Try.prog (30 : Nat) (Array.mk [Value.slice A2 n2 c2]) h4 fun (v6 : Value) (h7 : Heap) =>
 ∃ (a8 : Option Nat),
 v6 = Value.map a8 ∧
 ∃ (I9 : Option Addr → Nat → Nat → Option Addr → Nat → Nat → Option Addr → Nat → Nat → Option Addr → Nat → Nat → Option Addr → Nat → Nat → Heap → Prop),
 ∃ (I10 : Option Addr → Nat → Nat → Option Addr → Nat → Nat → Option Addr → Nat → Nat → Option Addr → Nat → Nat → Option Addr → Nat → Nat → Heap → Nat),
 I9 A0 n0 c0 A1 n1 c1 A2 n2 c2 none (0 : Nat) (0 : Nat) none (0 : Nat) (0 : Nat) h7 ∧
 ∀ (a11 : Option Addr) (k12 k13 : Nat) (a14 : Option Addr) (k15 k16 : Nat) (a17 : Option Addr) (k18 k19 : Nat) (a20 : Option Addr) (k21 k22 : Nat) (a23 : Option Addr)
 (k24 k25 : Nat) (h26 : Heap),
 I9 a11 k12 k13 a14 k15 k16 a17 k18 k19 a20 k21 k22 a23 k24 k25 h26 →
 SVC Try.prog
 (Instr.buildSlice (61 : Nat) (3 : Nat) (Array.mk [((0 : Nat), Value.slice a11 k12 k13), ((1 : Nat), Value.slice a14 k15 k16), ((2 : Nat), Value.slice a17 k18 k19)])) h26
 fun (v27 : Value) (h28 : Heap) =>
 ∃ (a29 : Option Addr),
 ∃ (k30 : Nat),
 ∃ (k31 : Nat),
 v27 = Value.slice a29 k30 k31 ∧
 HC Try.prog (31 : Nat) (Array.mk [Value.slice a29 k30 k31]) h28 fun (v32 : Value) (h33 : Heap) =>
 ∃ (s34 : ByteArray),
 ∃ (b35 : Bool),
 v32 = Value.tuple (Array.mk [Value.string s34, Value.bool b35]) ∧
 br (!b35)
 (br (decide ((↑k24 : Int) > (0 : Int))) (R (Value.tuple (Array.mk [Value.slice none (0 : Nat) (0 : Nat), Value.slice a23 k24 k25])) h33)
 (R (Value.tuple (Array.mk [Value.slice a20 k21 k22, Value.slice none (0 : Nat) (0 : Nat)])) h33))
 (HC Try.prog (32 : Nat) (Array.mk [Value.slice a11 k12 k13, Value.string s34]) h33 fun (v36 : Value) (h37 : Heap) =>
 ∃ (a38 : Option Addr),
 ∃ (k39 : Nat),
 ∃ (k40 : Nat),
 v36 = Value.slice a38 k39 k40 ∧
 HC Try.prog (32 : Nat) (Array.mk [Value.slice a14 k15 k16, Value.string s34]) h37 fun (v41 : Value) (h42 : Heap) =>
 ∃ (a43 : Option Addr),
 ∃ (k44 : Nat),
 ∃ (k45 : Nat),
 v41 = Value.slice a43 k44 k45 ∧
 HC Try.prog (32 : Nat) (Array.mk [Value.slice a17 k18 k19, Value.string s34]) h42 fun (v46 : Value) (h47 : Heap) =>
 ∃ (a48 : Option Addr),
 ∃ (k49 : Nat),
 ∃ (k50 : Nat),
 v46 = Value.slice a48 k49 k50 ∧
 ∃ (s51 : ByteArray),
 ∃ (b52 : Bool),
 Reads Try.prog (Instr.lookup (49 : Nat) (Value.map a5) (Value.string s34) false) h47
 (Value.agg (Array.mk [Value.string s51, Value.bool b52])) ∧
 SVC Try.prog
 (Instr.storeAt (54 : Nat) (Value.pointer (some (Addr.mk (Array.size h47) (0 : Nat) none)))
 (Value.agg (Array.mk [Value.string s51, Value.bool b52])))
 (Array.push h47 (Obj.cells (Array.mk [Value.string (ByteArray.mk (Array.mk [])), Value.bool false]) (54 : Nat)))
 fun (x53 : Unit) (h54 : Heap) =>
 ∃ (I55 : Option Addr → Nat → Nat → Heap → Prop),
 (∃ (s56 : ByteArray),
 ∃ (b57 : Bool),
 Reads Try.prog (Instr.lookup (49 : Nat) (Value.map a5) (Value.string s34) false) h54
 (Value.agg (Array.mk [Value.string s56, Value.bool b57])) ∧
 ∃ (s58 : ByteArray),
 ∃ (b59 : Bool),
 Reads Try.prog (Instr.lookup (49 : Nat) (Value.map a2) (Value.string s34) false) h54
 (Value.agg (Array.mk [Value.string s58, Value.bool b59])) ∧
 ∃ (b60 : Bool),
 Reads Try.prog
 (eqSem BinOp.eql (54 : Nat) (Operand.tmp (51 : Nat)) (Operand.tmp (54 : Nat))
 (Value.agg (Array.mk [Value.string s56, Value.bool b57]))
 (Value.agg (Array.mk [Value.string s58, Value.bool b59])))
 h54 (Value.bool b60) ∧
 br b60
 (∃ (s61 : ByteArray),
 ∃ (b62 : Bool),
 Reads Try.prog (Instr.lookup (49 : Nat) (Value.map a8) (Value.string s34) false) h54
 (Value.agg (Array.mk [Value.string s61, Value.bool b62])) ∧
 SVC Try.prog
 (Instr.storeAt (54 : Nat)
 (Value.pointer (some (Addr.mk (Array.size h47) (0 : Nat) none)))
 (Value.agg (Array.mk [Value.string s61, Value.bool b62])))
 h54 fun (x63 : Unit) (h64 : Heap) => I55 a23 k24 k25 h64)
 (∃ (s65 : ByteArray),
 ∃ (b66 : Bool),
 Reads Try.prog (Instr.lookup (49 : Nat) (Value.map a8) (Value.string s34) false) h54
 (Value.agg (Array.mk [Value.string s65, Value.bool b66])) ∧
 ∃ (s67 : ByteArray),
 ∃ (b68 : Bool),
 Reads Try.prog (Instr.lookup (49 : Nat) (Value.map a2) (Value.string s34) false)
 h54 (Value.agg (Array.mk [Value.string s67, Value.bool b68])) ∧
 ∃ (b69 : Bool),
 Reads Try.prog
 (eqSem BinOp.eql (54 : Nat) (Operand.tmp (62 : Nat))
 (Operand.tmp (65 : Nat))
 (Value.agg (Array.mk [Value.string s65, Value.bool b66]))
 (Value.agg (Array.mk [Value.string s67, Value.bool b68])))
 h54 (Value.bool b69) ∧
 ∃ (s70 : ByteArray),
 ∃ (b71 : Bool),
 ((!b69) = true →
 Reads Try.prog
 (Instr.lookup (49 : Nat) (Value.map a5) (Value.string s34) false)
 h54 (Value.agg (Array.mk [Value.string s70, Value.bool b71]))) ∧
 ∃ (s72 : ByteArray),
 ∃ (b73 : Bool),
 ((!b69) = true →
 Reads Try.prog
 (Instr.lookup (49 : Nat) (Value.map a8) (Value.string s34)
 false)
 h54
 (Value.agg (Array.mk [Value.string s72, Value.bool b73]))) ∧
 ∃ (b74 : Bool),
 ((!b69) = true →
 Reads Try.prog
 (eqSem BinOp.eql (54 : Nat) (Operand.tmp (70 : Nat))
 (Operand.tmp (73 : Nat))
 (Value.agg
 (Array.mk [Value.string s70, Value.bool b71]))
 (Value.agg
 (Array.mk [Value.string s72, Value.bool b73])))
 h54 (Value.bool b74)) ∧
 br (b69 || b74) (I55 a23 k24 k25 h54)
 (SVC Try.prog
 (Instr.buildSlice (29 : Nat) (1 : Nat)
 (Array.mk [((0 : Nat), Value.string s34)]))
 h54 fun (v75 : Value) (h76 : Heap) =>
 ∃ (a77 : Option Addr),
 ∃ (k78 : Nat),
 ∃ (k79 : Nat),
 v75 = Value.slice a77 k78 k79 ∧
 SVC Try.prog
 (Builtin.append_
 (Array.mk [(29 : Nat), (29 : Nat)])
 (29 : Nat)
 (Array.mk
 [Value.slice a23 k24 k25,
 Value.slice a77 k78 k79]))
 h76 fun (v80 : Value) (h81 : Heap) =>
 ∃ (a82 : Option Addr),
 ∃ (k83 : Nat),
 ∃ (k84 : Nat),
 v80 = Value.slice a82 k83 k84 ∧
 I55 a82 k83 k84 h81))) ∧
 ∀ (a85 : Option Addr) (k86 k87 : Nat) (h88 : Heap),
 I55 a85 k86 k87 h88 →
 ∃ (b89 : Bool),
 Reads Try.prog
 (Instr.loadAt (4 : Nat)
 (Value.pointer (some ((Addr.mk (Array.size h47) (0 : Nat) none).add (1 : Nat)))))
 h88 (Value.bool b89) ∧
 br b89
 (∃ (s90 : ByteArray),
 Reads Try.prog
 (Instr.loadAt (9 : Nat) (Value.pointer (some (Addr.mk (Array.size h47) (0 : Nat) none)))) h88
 (Value.string s90) ∧
 SVC Try.prog
 (Instr.buildSlice (22 : Nat) (1 : Nat)
 (Array.mk [((0 : Nat), Value.agg (Array.mk [Value.string s34, Value.string s90]))]))
 h88 fun (v91 : Value) (h92 : Heap) =>
 ∃ (a93 : Option Addr),
 ∃ (k94 : Nat),
 ∃ (k95 : Nat),
 v91 = Value.slice a93 k94 k95 ∧
 SVC Try.prog
 (Builtin.append_ (Array.mk [(22 : Nat), (22 : Nat)]) (22 : Nat)
 (Array.mk [Value.slice a20 k21 k22, Value.slice a93 k94 k95]))
 h92 fun (v96 : Value) (h97 : Heap) =>
 ∃ (a98 : Option Addr),
 ∃ (k99 : Nat),
 ∃ (k100 : Nat),
 v96 = Value.slice a98 k99 k100 ∧
 I9 a38 k39 k40 a43 k44 k45 a48 k49 k50 a98 k99 k100 a85 k86 k87 h97 ∧
 I10 a38 k39 k40 a43 k44 k45 a48 k49 k50 a98 k99 k100 a85 k86 k87 h97 <
 I10 a11 k12 k13 a14 k15 k16 a17 k18 k19 a20 k21 k22 a23 k24 k25 h26)
 (I9 a38 k39 k40 a43 k44 k45 a48 k49 k50 a20 k21 k22 a85 k86 k87 h88 ∧
 I10 a38 k39 k40 a43 k44 k45 a48 k49 k50 a20 k21 k22 a85 k86 k87 h88 <
 I10 a11 k12 k13 a14 k15 k16 a17 k18 k19 a20 k21 k22 a23 k24 k25 h26))) := by kernel_rfl

theorem vc22 (A0 : Option Addr) (n0 c0 : Nat) (A1 : Option Addr) (n1 c1 : Nat) (h : Heap) (R : Value → Heap → Prop) :
    vcF Try.prog Try.f22 26 [] [] [.slice A0 n0 c0, .slice A1 n1 c1] h R =
(br ((↑n0 : Int) != (↑n1 : Int)) (R (Value.bool false) h)
 (∃ (I0 : Bool → Int → Heap → Prop),
 ∃ (I1 : Bool → Int → Heap → Nat),
 I0 false (0 : Int) h ∧
 ∀ (b2 : Bool) (n3 : Int) (h4 : Heap),
 I0 b2 n3 h4 →
 br (decide (n3 < (↑n0 : Int)))
 (∃ (p5 : Addr),
 (A0 = some p5 ∧ (0 : Int) ≤ n3 ∧ n3 < (↑n0 : Int)) ∧
 ∃ (s6 : ByteArray),
 ∃ (s7 : ByteArray),
 Reads Try.prog (Instr.loadAt (38 : Nat) (Value.pointer (some (p5.add (n3.toNat * (2 : Nat)))))) h4 (Value.agg (Array.mk [Value.string s6, Value.string s7])) ∧
 ∃ (p8 : Addr),
 (A1 = some p8 ∧ (0 : Int) ≤ n3 ∧ n3 < (↑n1 : Int)) ∧
 ∃ (s9 : ByteArray),
 ∃ (s10 : ByteArray),
 Reads Try.prog (Instr.loadAt (38 : Nat) (Value.pointer (some (p8.add (n3.toNat * (2 : Nat)))))) h4 (Value.agg (Array.mk [Value.string s9, Value.string s10])) ∧
 ∃ (b11 : Bool),
 Reads Try.prog
 (eqSem BinOp.neq (38 : Nat) (Operand.tmp (19 : Nat)) (Operand.tmp (23 : Nat)) (Value.agg (Array.mk [Value.string s6, Value.string s7]))
 (Value.agg (Array.mk [Value.string s9, Value.string s10])))
 h4 (Value.bool b11) ∧
 br b11 (R (Value.bool false) h4) (I0 b2 (IntKind.i64.wrap (n3 + (1 : Int))) h4 ∧ I1 b2 (IntKind.i64.wrap (n3 + (1 : Int))) h4 < I1 b2 n3 h4))
 (R (Value.bool true) h4))) := by kernel_rfl

theorem vc23 (A0 : Option Addr) (n0 c0 : Nat) (A1 : Option Addr) (n1 c1 : Nat) (h : Heap) (R : Value → Heap → Prop) :
    vcF Try.prog Try.f23 26 [] [] [.slice A0 n0 c0, .slice A1 n1 c1] h R =
(br ((↑n0 : Int) != (↑n1 : Int)) (R (Value.bool false) h)
 (∃ (I0 : Bool → Int → Heap → Prop),
 ∃ (I1 : Bool → Int → Heap → Nat),
 I0 false (0 : Int) h ∧
 ∀ (b2 : Bool) (n3 : Int) (h4 : Heap),
 I0 b2 n3 h4 →
 br (decide (n3 < (↑n0 : Int)))
 (∃ (p5 : Addr),
 (A0 = some p5 ∧ (0 : Int) ≤ n3 ∧ n3 < (↑n0 : Int)) ∧
 ∃ (s6 : ByteArray),
 Reads Try.prog (Instr.loadAt (9 : Nat) (Value.pointer (some (p5.add (n3.toNat * (1 : Nat)))))) h4 (Value.string s6) ∧
 ∃ (p7 : Addr),
 (A1 = some p7 ∧ (0 : Int) ≤ n3 ∧ n3 < (↑n1 : Int)) ∧
 ∃ (s8 : ByteArray),
 Reads Try.prog (Instr.loadAt (9 : Nat) (Value.pointer (some (p7.add (n3.toNat * (1 : Nat)))))) h4 (Value.string s8) ∧
 br (!s6.toList == s8.toList) (R (Value.bool false) h4) (I0 b2 (IntKind.i64.wrap (n3 + (1 : Int))) h4 ∧ I1 b2 (IntKind.i64.wrap (n3 + (1 : Int))) h4 < I1 b2 n3 h4))
 (R (Value.bool true) h4))) := by kernel_rfl

theorem vc21 (A0 : Option Addr) (n0 c0 : Nat) (A1 : Option Addr) (n1 c1 : Nat) (A2 : Option Addr) (n2 c2 : Nat) (h : Heap) (R : Value → Heap → Prop) :
    vcF Try.prog Try.f21 100 [] [] [.slice A0 n0 c0, .slice A1 n1 c1, .slice A2 n2 c2] h R =
(SVC Try.prog (Instr.buildSlice (61 : Nat) (3 : Nat) (Array.mk [((0 : Nat), Value.slice A0 n0 c0), ((1 : Nat), Value.slice A1 n1 c1), ((2 : Nat), Value.slice A2 n2 c2)])) h
 fun (v0 : Value) (h1 : Heap) =>
 ∃ (a2 : Option Addr),
 ∃ (k3 : Nat),
 ∃ (k4 : Nat),
 v0 = Value.slice a2 k3 k4 ∧
 HC Try.prog (29 : Nat) (Array.mk [Value.slice a2 k3 k4]) h1 fun (v5 : Value) (h6 : Heap) =>
 ∃ (a7 : Option Addr),
 ∃ (k8 : Nat),
 ∃ (k9 : Nat),
 v5 = Value.slice a7 k8 k9 ∧
 ∃ (I10 : Option Addr → Nat → Nat → Option Addr → Nat → Nat → Int → Heap → Prop),
 ∃ (I11 : Option Addr → Nat → Nat → Option Addr → Nat → Nat → Int → Heap → Nat),
 I10 none (0 : Nat) (0 : Nat) none (0 : Nat) (0 : Nat) (0 : Int) h6 ∧
 ∀ (a12 : Option Addr) (k13 k14 : Nat) (a15 : Option Addr) (k16 k17 : Nat) (n18 : Int) (h19 : Heap),
 I10 a12 k13 k14 a15 k16 k17 n18 h19 →
 br (decide (n18 < (↑k8 : Int)))
 (∃ (p20 : Addr),
 (a7 = some p20 ∧ (0 : Int) ≤ n18 ∧ n18 < (↑k8 : Int)) ∧
 ∃ (s21 : ByteArray),
 Reads Try.prog (Instr.loadAt (9 : Nat) (Value.pointer (some (p20.add (n18.toNat * (1 : Nat)))))) h19 (Value.string s21) ∧
 HC Try.prog (24 : Nat) (Array.mk [Value.slice A0 n0 c0, Value.string s21]) h19 fun (v22 : Value) (h23 : Heap) =>
 ∃ (s24 : ByteArray),
 ∃ (b25 : Bool),
 v22 = Value.tuple (Array.mk [Value.string s24, Value.bool b25]) ∧
 HC Try.prog (24 : Nat) (Array.mk [Value.slice A1 n1 c1, Value.string s21]) h23 fun (v26 : Value) (h27 : Heap) =>
 ∃ (s28 : ByteArray),
 ∃ (b29 : Bool),
 v26 = Value.tuple (Array.mk [Value.string s28, Value.bool b29]) ∧
 HC Try.prog (24 : Nat) (Array.mk [Value.slice A2 n2 c2, Value.string s21]) h27 fun (v30 : Value) (h31 : Heap) =>
 ∃ (s32 : ByteArray),
 ∃ (b33 : Bool),
 v30 = Value.tuple (Array.mk [Value.string s32, Value.bool b33]) ∧
 ∃ (b34 : Bool),
 ((s28.toList == s24.toList) = true →
 Reads Try.prog (eqSem BinOp.eql (4 : Nat) (Operand.tmp (52 : Nat)) (Operand.tmp (53 : Nat)) (Value.bool b29) (Value.bool b25)) h31
 (Value.bool b34)) ∧
 ∃ (b35 : Bool),
 ((s32.toList == s24.toList) = true →
 Reads Try.prog (eqSem BinOp.eql (4 : Nat) (Operand.tmp (60 : Nat)) (Operand.tmp (61 : Nat)) (Value.bool b33) (Value.bool b25))
 h31 (Value.bool b35)) ∧
 ∃ (b36 : Bool),
 ((!!s28.toList == s32.toList && (!(s28.toList == s24.toList && b34) && !(s32.toList == s24.toList && b35))) = true →
 Reads Try.prog
 (eqSem BinOp.neq (4 : Nat) (Operand.tmp (75 : Nat)) (Operand.tmp (76 : Nat)) (Value.bool b29) (Value.bool b33)) h31
 (Value.bool b36)) ∧
 br (!(s28.toList == s24.toList && b34) && !(s32.toList == s24.toList && b35) && (!s28.toList == s32.toList || b36))
 (SVC Try.prog (Instr.buildSlice (29 : Nat) (1 : Nat) (Array.mk [((0 : Nat), Value.string s21)])) h31
 fun (v37 : Value) (h38 : Heap) =>
 ∃ (a39 : Option Addr),
 ∃ (k40 : Nat),
 ∃ (k41 : Nat),
 v37 = Value.slice a39 k40 k41 ∧
 SVC Try.prog
 (Builtin.append_ (Array.mk [(29 : Nat), (29 : Nat)]) (29 : Nat)
 (Array.mk [Value.slice a15 k16 k17, Value.slice a39 k40 k41]))
 h38 fun (v42 : Value) (h43 : Heap) =>
 ∃ (a44 : Option Addr),
 ∃ (k45 : Nat),
 ∃ (k46 : Nat),
 v42 = Value.slice a44 k45 k46 ∧
 I10 a12 k13 k14 a44 k45 k46 (IntKind.i64.wrap (n18 + (1 : Int))) h43 ∧
 I11 a12 k13 k14 a44 k45 k46 (IntKind.i64.wrap (n18 + (1 : Int))) h43 <
 I11 a12 k13 k14 a15 k16 k17 n18 h19)
 (br (s28.toList == s24.toList && b34)
 (br b33
 (SVC Try.prog
 (Instr.buildSlice (22 : Nat) (1 : Nat)
 (Array.mk [((0 : Nat), Value.agg (Array.mk [Value.string s21, Value.string s32]))]))
 h31 fun (v47 : Value) (h48 : Heap) =>
 ∃ (a49 : Option Addr),
 ∃ (k50 : Nat),
 ∃ (k51 : Nat),
 v47 = Value.slice a49 k50 k51 ∧
 SVC Try.prog
 (Builtin.append_ (Array.mk [(22 : Nat), (22 : Nat)]) (22 : Nat)
 (Array.mk [Value.slice a12 k13 k14, Value.slice a49 k50 k51]))
 h48 fun (v52 : Value) (h53 : Heap) =>
 ∃ (a54 : Option Addr),
 ∃ (k55 : Nat),
 ∃ (k56 : Nat),
 v52 = Value.slice a54 k55 k56 ∧
 I10 a54 k55 k56 a15 k16 k17 (IntKind.i64.wrap (n18 + (1 : Int))) h53 ∧
 I11 a54 k55 k56 a15 k16 k17 (IntKind.i64.wrap (n18 + (1 : Int))) h53 <
 I11 a12 k13 k14 a15 k16 k17 n18 h19)
 (I10 a12 k13 k14 a15 k16 k17 (IntKind.i64.wrap (n18 + (1 : Int))) h31 ∧
 I11 a12 k13 k14 a15 k16 k17 (IntKind.i64.wrap (n18 + (1 : Int))) h31 < I11 a12 k13 k14 a15 k16 k17 n18 h19))
 (br b29
 (SVC Try.prog
 (Instr.buildSlice (22 : Nat) (1 : Nat)
 (Array.mk [((0 : Nat), Value.agg (Array.mk [Value.string s21, Value.string s28]))]))
 h31 fun (v57 : Value) (h58 : Heap) =>
 ∃ (a59 : Option Addr),
 ∃ (k60 : Nat),
 ∃ (k61 : Nat),
 v57 = Value.slice a59 k60 k61 ∧
 SVC Try.prog
 (Builtin.append_ (Array.mk [(22 : Nat), (22 : Nat)]) (22 : Nat)
 (Array.mk [Value.slice a12 k13 k14, Value.slice a59 k60 k61]))
 h58 fun (v62 : Value) (h63 : Heap) =>
 ∃ (a64 : Option Addr),
 ∃ (k65 : Nat),
 ∃ (k66 : Nat),
 v62 = Value.slice a64 k65 k66 ∧
 I10 a64 k65 k66 a15 k16 k17 (IntKind.i64.wrap (n18 + (1 : Int))) h63 ∧
 I11 a64 k65 k66 a15 k16 k17 (IntKind.i64.wrap (n18 + (1 : Int))) h63 <
 I11 a12 k13 k14 a15 k16 k17 n18 h19)
 (I10 a12 k13 k14 a15 k16 k17 (IntKind.i64.wrap (n18 + (1 : Int))) h31 ∧
 I11 a12 k13 k14 a15 k16 k17 (IntKind.i64.wrap (n18 + (1 : Int))) h31 < I11 a12 k13 k14 a15 k16 k17 n18 h19))))
 (br (decide ((↑k16 : Int) > (0 : Int))) (R (Value.tuple (Array.mk [Value.slice none (0 : Nat) (0 : Nat), Value.slice a15 k16 k17])) h19)
 (R (Value.tuple (Array.mk [Value.slice a12 k13 k14, Value.slice none (0 : Nat) (0 : Nat)])) h19))) := by kernel_rfl

theorem vc18 (h : Heap) (R : Value → Heap → Prop) :
    vcF Try.prog Try.f18 45 [] [] [] h R =
(SVC Try.prog
 (Instr.buildSlice (22 : Nat) (1 : Nat) (Array.mk [((0 : Nat), Value.agg (Array.mk [Value.string (ByteArray.mk (Array.mk [(97 : UInt8)])), Value.string (ByteArray.mk (Array.mk [(49 : UInt8)]))]))]))
 h fun (v0 : Value) (h1 : Heap) =>
 ∃ (a2 : Option Addr),
 ∃ (k3 : Nat),
 ∃ (k4 : Nat),
 v0 = Value.slice a2 k3 k4 ∧
 SVC Try.prog
 (Instr.buildSlice (22 : Nat) (1 : Nat)
 (Array.mk [((0 : Nat), Value.agg (Array.mk [Value.string (ByteArray.mk (Array.mk [(97 : UInt8)])), Value.string (ByteArray.mk (Array.mk [(50 : UInt8)]))]))]))
 h1 fun (v5 : Value) (h6 : Heap) =>
 ∃ (a7 : Option Addr),
 ∃ (k8 : Nat),
 ∃ (k9 : Nat),
 v5 = Value.slice a7 k8 k9 ∧
 HC Try.prog (20 : Nat) (Array.mk [Value.slice a2 k3 k4, Value.slice a7 k8 k9, Value.slice none (0 : Nat) (0 : Nat)]) h6 fun (v10 : Value) (h11 : Heap) =>
 ∃ (a12 : Option Addr),
 ∃ (k13 : Nat),
 ∃ (k14 : Nat),
 ∃ (a15 : Option Addr),
 ∃ (k16 : Nat),
 ∃ (k17 : Nat),
 v10 = Value.tuple (Array.mk [Value.slice a12 k13 k14, Value.slice a15 k16 k17]) ∧
 SVC Try.prog
 (Instr.buildSlice (22 : Nat) (1 : Nat)
 (Array.mk [((0 : Nat), Value.agg (Array.mk [Value.string (ByteArray.mk (Array.mk [(97 : UInt8)])), Value.string (ByteArray.mk (Array.mk []))]))]))
 h11 fun (v18 : Value) (h19 : Heap) =>
 ∃ (a20 : Option Addr),
 ∃ (k21 : Nat),
 ∃ (k22 : Nat),
 v18 = Value.slice a20 k21 k22 ∧
 SVC Try.prog
 (Instr.buildSlice (22 : Nat) (1 : Nat)
 (Array.mk [((0 : Nat), Value.agg (Array.mk [Value.string (ByteArray.mk (Array.mk [(98 : UInt8)])), Value.string (ByteArray.mk (Array.mk []))]))]))
 h19 fun (v23 : Value) (h24 : Heap) =>
 ∃ (a25 : Option Addr),
 ∃ (k26 : Nat),
 ∃ (k27 : Nat),
 v23 = Value.slice a25 k26 k27 ∧
 HC Try.prog (20 : Nat) (Array.mk [Value.slice none (0 : Nat) (0 : Nat), Value.slice a20 k21 k22, Value.slice a25 k26 k27]) h24
 fun (v28 : Value) (h29 : Heap) =>
 ∃ (a30 : Option Addr),
 ∃ (k31 : Nat),
 ∃ (k32 : Nat),
 ∃ (a33 : Option Addr),
 ∃ (k34 : Nat),
 ∃ (k35 : Nat),
 v28 = Value.tuple (Array.mk [Value.slice a30 k31 k32, Value.slice a33 k34 k35]) ∧
 ∃ (p36 : Addr),
 (((↑k13 : Int) == (0 : Int) && (↑k16 : Int) == (1 : Int)) = true →
 a15 = some p36 ∧ (0 : Int) ≤ (0 : Int) ∧ (0 : Int) < (↑k16 : Int)) ∧
 ∃ (s37 : ByteArray),
 (((↑k13 : Int) == (0 : Int) && (↑k16 : Int) == (1 : Int)) = true →
 Reads Try.prog (Instr.loadAt (9 : Nat) (Value.pointer (some p36))) h29 (Value.string s37)) ∧
 R
 (Value.bool
 ((↑k13 : Int) == (0 : Int) && (↑k16 : Int) == (1 : Int) &&
 s37.toList ==
 [(Subtype.mk ((ByteArray.mk (Array.mk [(97 : UInt8)])).get! (0 : Nat))
 (List.forall_mem_cons.mp
 (List.attach._proof_1 [(ByteArray.mk (Array.mk [(97 : UInt8)])).get! (0 : Nat)])).left).val] &&
 (↑k31 : Int) == (2 : Int) &&
 (↑k34 : Int) == (0 : Int)))
 h29) := by kernel_rfl

theorem vc19 (A0 : Option Addr) (n0 c0 : Nat) (h : Heap) (R : Value → Heap → Prop) :
    vcF Try.prog Try.f19 30 [] [] [.slice A0 n0 c0] h R =
(br (decide ((↑n0 : Int) > (300 : Int))) (R (Value.bool true) h)
 (∃ (I0 : Bool → Int → Int → Heap → Prop),
 ∃ (I1 : Bool → Int → Int → Heap → Nat),
 I0 false (0 : Int) (0 : Int) h ∧
 ∀ (b2 : Bool) (n3 n4 : Int) (h5 : Heap),
 I0 b2 n3 n4 h5 →
 br (decide (n4 < (↑n0 : Int)))
 (∃ (p6 : Addr),
 (A0 = some p6 ∧ (0 : Int) ≤ n4 ∧ n4 < (↑n0 : Int)) ∧
 ∃ (s7 : ByteArray),
 ∃ (s8 : ByteArray),
 Reads Try.prog (Instr.loadAt (38 : Nat) (Value.pointer (some (p6.add (n4.toNat * (2 : Nat)))))) h5 (Value.agg (Array.mk [Value.string s7, Value.string s8])) ∧
 SVC Try.prog (Instr.storeAt (38 : Nat) (Value.pointer (some (Addr.mk (Array.size h5) (0 : Nat) none))) (Value.agg (Array.mk [Value.string s7, Value.string s8])))
 (Array.push h5 (Obj.cells (Array.mk [Value.string (ByteArray.mk (Array.mk [])), Value.string (ByteArray.mk (Array.mk []))]) (38 : Nat))) fun (x9 : Unit) (h10 : Heap) =>
 ∃ (s11 : ByteArray),
 Reads Try.prog (Instr.loadAt (9 : Nat) (Value.pointer (some (Addr.mk (Array.size h5) (0 : Nat) none)))) h10 (Value.string s11) ∧
 ∃ (s12 : ByteArray),
 Reads Try.prog (Instr.loadAt (9 : Nat) (Value.pointer (some ((Addr.mk (Array.size h5) (0 : Nat) none).add (1 : Nat))))) h10 (Value.string s12) ∧
 br (decide (IntKind.i64.wrap (n3 + IntKind.i64.wrap ((↑s11.size : Int) + (↑s12.size : Int))) > (8192 : Int))) (R (Value.bool true) h10)
 (I0 b2 (IntKind.i64.wrap (n3 + IntKind.i64.wrap ((↑s11.size : Int) + (↑s12.size : Int)))) (IntKind.i64.wrap (n4 + (1 : Int))) h10 ∧
 I1 b2 (IntKind.i64.wrap (n3 + IntKind.i64.wrap ((↑s11.size : Int) + (↑s12.size : Int)))) (IntKind.i64.wrap (n4 + (1 : Int))) h10 < I1 b2 n3 n4 h5))
 (HC Try.prog (28 : Nat) (Array.mk [Value.slice A0 n0 c0]) h5 fun (v13 : Value) (h14 : Heap) => ∃ (b15 : Bool), v13 = Value.bool b15 ∧ R (Value.bool !b15) h14))) := by kernel_rfl

theorem vc4 (A0 : Option Addr) (n0 c0 : Nat) (A1 : Option Addr) (n1 c1 : Nat) (A2 : Option Addr) (n2 c2 : Nat) (h : Heap) (R : Value → Heap → Prop) :
    vcF Try.prog Try.f4 45 [] [] [.slice A0 n0 c0, .slice A1 n1 c1, .slice A2 n2 c2] h R =
(HC Try.prog (18 : Nat) (Array.mk []) h fun (v0 : Value) (h1 : Heap) =>
 ∃ (b2 : Bool),
 v0 = Value.bool b2 ∧
 br (!b2) (R (Value.bool false) h1)
 (HC Try.prog (19 : Nat) (Array.mk [Value.slice A0 n0 c0]) h1 fun (v3 : Value) (h4 : Heap) =>
 ∃ (b5 : Bool),
 v3 = Value.bool b5 ∧
 br (bif b5 then false else true)
 (HC Try.prog (19 : Nat) (Array.mk [Value.slice A1 n1 c1]) h4 fun (v6 : Value) (h7 : Heap) =>
 ∃ (b8 : Bool),
 v6 = Value.bool b8 ∧
 br (bif b8 then false else true)
 (HC Try.prog (19 : Nat) (Array.mk [Value.slice A2 n2 c2]) h7 fun (v9 : Value) (h10 : Heap) =>
 ∃ (b11 : Bool),
 v9 = Value.bool b11 ∧
 br b11 (R (Value.bool true) h10)
 (HC Try.prog (20 : Nat) (Array.mk [Value.slice A0 n0 c0, Value.slice A1 n1 c1, Value.slice A2 n2 c2]) h10 fun (v12 : Value) (h13 : Heap) =>
 ∃ (a14 : Option Addr),
 ∃ (k15 : Nat),
 ∃ (k16 : Nat),
 ∃ (a17 : Option Addr),
 ∃ (k18 : Nat),
 ∃ (k19 : Nat),
 v12 = Value.tuple (Array.mk [Value.slice a14 k15 k16, Value.slice a17 k18 k19]) ∧
 HC Try.prog (21 : Nat) (Array.mk [Value.slice A0 n0 c0, Value.slice A1 n1 c1, Value.slice A2 n2 c2]) h13 fun (v20 : Value) (h21 : Heap) =>
 ∃ (a22 : Option Addr),
 ∃ (k23 : Nat),
 ∃ (k24 : Nat),
 ∃ (a25 : Option Addr),
 ∃ (k26 : Nat),
 ∃ (k27 : Nat),
 v20 = Value.tuple (Array.mk [Value.slice a22 k23 k24, Value.slice a25 k26 k27]) ∧
 HC Try.prog (22 : Nat) (Array.mk [Value.slice a14 k15 k16, Value.slice a22 k23 k24]) h21 fun (v28 : Value) (h29 : Heap) =>
 ∃ (b30 : Bool),
 v28 = Value.bool b30 ∧
 br b30
 (HC Try.prog (23 : Nat) (Array.mk [Value.slice a17 k18 k19, Value.slice a25 k26 k27]) h29 fun (v31 : Value) (h32 : Heap) =>
 ∃ (b33 : Bool), v31 = Value.bool b33 ∧ R (Value.bool b33) h32)
 (R (Value.bool false) h29)))
 (R (Value.bool true) h7))
 (R (Value.bool true) h4))) := by kernel_rfl
end Go.Proofs.Ytepnckpaknabpaa
