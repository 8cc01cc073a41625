/-
  What a call of each function comes to, as the symbolic run tells it: by the kernel's own reckoning. Conditions: none.
-/
import Derived.Test.YtepnckpaknabpaaVcE
import Derived.Test.YtepnckpaknabpaaProg
import Derived.KernelRfl
set_option linter.unusedVariables false
set_option maxRecDepth 100000
namespace Go.Proofs.Ytepnckpaknabpaa
open Go Go.Vc Go.Proofs

theorem vc34 (r : Option Nat) (h : Heap) (R : Value → Heap → Prop) :
    vcF Try.prog Try.f34 24 [] [] [.map r] h R =
(HC Try.prog (37 : Nat) (Array.mk [Value.map r]) h fun (v0 : Value) (h1 : Heap) =>
 ∃ (v2 : Value),
 v0 = v2 ∧
 HC Try.prog (36 : Nat) (Array.mk [v2]) h1 fun (v3 : Value) (h4 : Heap) =>
 ∃ (a5 : Option Addr),
 ∃ (k6 : Nat),
 ∃ (k7 : Nat),
 v3 = Value.slice a5 k6 k7 ∧
 ∃ (I8 : Option Addr → Nat → Nat → Int → Heap → Prop),
 ∃ (I9 : Option Addr → Nat → Nat → Int → Heap → Nat),
 I8 none (0 : Nat) (0 : Nat) (0 : Int) h4 ∧
 ∀ (a10 : Option Addr) (k11 k12 : Nat) (n13 : Int) (h14 : Heap),
 I8 a10 k11 k12 n13 h14 →
 br (decide (n13 < (↑k6 : Int)))
 (∃ (p15 : Addr),
 (a5 = some p15 ∧ (0 : Int) ≤ n13 ∧ n13 < (↑k6 : Int)) ∧
 ∃ (s16 : ByteArray),
 Reads Try.prog (Instr.loadAt (9 : Nat) (Value.pointer (some (p15.add (n13.toNat * (1 : Nat)))))) h14 (Value.string s16) ∧
 ∃ (s17 : ByteArray),
 Reads Try.prog (Instr.lookup (56 : Nat) (Value.map r) (Value.string s16) false) h14 (Value.string s17) ∧
 SVC Try.prog (Instr.buildSlice (22 : Nat) (1 : Nat) (Array.mk [((0 : Nat), Value.agg (Array.mk [Value.string s16, Value.string s17]))])) h14
 fun (v18 : Value) (h19 : Heap) =>
 ∃ (a20 : Option Addr),
 ∃ (k21 : Nat),
 ∃ (k22 : Nat),
 v18 = Value.slice a20 k21 k22 ∧
 SVC Try.prog (Builtin.append_ (Array.mk [(22 : Nat), (22 : Nat)]) (22 : Nat) (Array.mk [Value.slice a10 k11 k12, Value.slice a20 k21 k22])) h19
 fun (v23 : Value) (h24 : Heap) =>
 ∃ (a25 : Option Addr),
 ∃ (k26 : Nat),
 ∃ (k27 : Nat),
 v23 = Value.slice a25 k26 k27 ∧
 I8 a25 k26 k27 (IntKind.i64.wrap (n13 + (1 : Int))) h24 ∧ I9 a25 k26 k27 (IntKind.i64.wrap (n13 + (1 : Int))) h24 < I9 a10 k11 k12 n13 h14)
 (R (Value.slice a10 k11 k12) h14)) := by kernel_rfl

theorem vc25 (A0 : Option Addr) (n0 c0 : Nat) (A1 : Option Addr) (n1 c1 : Nat) (h : Heap) (R : Value → Heap → Prop) :
    vcF Try.prog Try.f25 63 [] [] [.slice A0 n0 c0, .slice A1 n1 c1] h R =
(∃ (I0 : Int → Heap → Prop),
 ∃ (I1 : Int → Heap → Nat),
 I0 (0 : Int) (Array.push h (Obj.map (Array.mk []) (0 : Nat))) ∧
 ∀ (n2 : Int) (h3 : Heap),
 I0 n2 h3 →
 br (decide (n2 < (↑n0 : Int)))
 (∃ (p4 : Addr),
 (A0 = some p4 ∧ (0 : Int) ≤ n2 ∧ n2 < (↑n0 : Int)) ∧
 ∃ (s5 : ByteArray),
 ∃ (s6 : ByteArray),
 Reads Try.prog (Instr.loadAt (38 : Nat) (Value.pointer (some (p4.add (n2.toNat * (2 : Nat)))))) h3 (Value.agg (Array.mk [Value.string s5, Value.string s6])) ∧
 SVC Try.prog (Instr.storeAt (38 : Nat) (Value.pointer (some (Addr.mk (Array.size h3) (0 : Nat) none))) (Value.agg (Array.mk [Value.string s5, Value.string s6])))
 (Array.push h3 (Obj.cells (Array.mk [Value.string (ByteArray.mk (Array.mk [])), Value.string (ByteArray.mk (Array.mk []))]) (38 : Nat))) fun (x7 : Unit) (h8 : Heap) =>
 ∃ (s9 : ByteArray),
 Reads Try.prog (Instr.loadAt (9 : Nat) (Value.pointer (some (Addr.mk (Array.size h3) (0 : Nat) none)))) h8 (Value.string s9) ∧
 ∃ (s10 : ByteArray),
 Reads Try.prog (Instr.loadAt (9 : Nat) (Value.pointer (some ((Addr.mk (Array.size h3) (0 : Nat) none).add (1 : Nat))))) h8 (Value.string s10) ∧
 SVC Try.prog (Instr.mapUpdate (56 : Nat) (Value.map (some (Array.size h))) (Value.string s9) (Value.string s10)) h8 fun (x11 : Unit) (h12 : Heap) =>
 I0 (IntKind.i64.wrap (n2 + (1 : Int))) h12 ∧ I1 (IntKind.i64.wrap (n2 + (1 : Int))) h12 < I1 n2 h3)
 (∃ (I13 : Option Addr → Nat → Nat → Int → Int → Heap → Prop),
 ∃ (I14 : Option Addr → Nat → Nat → Int → Int → Heap → Nat),
 I13 none (0 : Nat) (0 : Nat) (0 : Int) (0 : Int) h3 ∧
 ∀ (a15 : Option Addr) (k16 k17 : Nat) (n18 n19 : Int) (h20 : Heap),
 I13 a15 k16 k17 n18 n19 h20 →
 br (decide (n19 < (↑n1 : Int)))
 (∃ (p21 : Addr),
 (A1 = some p21 ∧ (0 : Int) ≤ n19 ∧ n19 < (↑n1 : Int)) ∧
 ∃ (s22 : ByteArray),
 ∃ (s23 : ByteArray),
 ∃ (s24 : ByteArray),
 ∃ (b25 : Bool),
 ∃ (b26 : Bool),
 Reads Try.prog (Instr.loadAt (40 : Nat) (Value.pointer (some (p21.add (n19.toNat * (5 : Nat)))))) h20
 (Value.agg (Array.mk [Value.string s22, Value.string s23, Value.string s24, Value.bool b25, Value.bool b26])) ∧
 SVC Try.prog
 (Instr.storeAt (40 : Nat) (Value.pointer (some (Addr.mk (Array.size h20) (0 : Nat) none)))
 (Value.agg (Array.mk [Value.string s22, Value.string s23, Value.string s24, Value.bool b25, Value.bool b26])))
 (Array.push h20
 (Obj.cells
 (Array.mk
 [Value.string (ByteArray.mk (Array.mk [])), Value.string (ByteArray.mk (Array.mk [])), Value.string (ByteArray.mk (Array.mk [])), Value.bool false,
 Value.bool false])
 (40 : Nat)))
 fun (x27 : Unit) (h28 : Heap) =>
 ∃ (s29 : ByteArray),
 Reads Try.prog (Instr.loadAt (9 : Nat) (Value.pointer (some (Addr.mk (Array.size h20) (0 : Nat) none)))) h28 (Value.string s29) ∧
 ∃ (s30 : ByteArray),
 ∃ (b31 : Bool),
 Reads Try.prog (Instr.lookup (56 : Nat) (Value.map (some (Array.size h))) (Value.string s29) true) h28
 (Value.tuple (Array.mk [Value.string s30, Value.bool b31])) ∧
 ∃ (b32 : Bool),
 Reads Try.prog (Instr.loadAt (4 : Nat) (Value.pointer (some ((Addr.mk (Array.size h20) (0 : Nat) none).add (3 : Nat))))) h28 (Value.bool b32) ∧
 ∃ (b33 : Bool),
 Reads Try.prog (eqSem BinOp.neq (4 : Nat) (Operand.tmp (39 : Nat)) (Operand.tmp (41 : Nat)) (Value.bool b31) (Value.bool b32)) h28
 (Value.bool b33) ∧
 ∃ (s34 : ByteArray),
 ((!b33) = true →
 Reads Try.prog (Instr.loadAt (9 : Nat) (Value.pointer (some ((Addr.mk (Array.size h20) (0 : Nat) none).add (1 : Nat))))) h28
 (Value.string s34)) ∧
 br (b33 || !s30.toList == s34.toList)
 (R (Value.tuple (Array.mk [Value.slice none (0 : Nat) (0 : Nat), Value.int IntKind.i64 (4 : Int)])) h28)
 (∃ (b35 : Bool),
 Reads Try.prog (Instr.loadAt (4 : Nat) (Value.pointer (some ((Addr.mk (Array.size h20) (0 : Nat) none).add (4 : Nat))))) h28
 (Value.bool b35) ∧
 br (!b35)
 (∃ (s36 : ByteArray),
 Reads Try.prog (Instr.loadAt (9 : Nat) (Value.pointer (some (Addr.mk (Array.size h20) (0 : Nat) none)))) h28
 (Value.string s36) ∧
 SVC Try.prog
 (Builtin.delete_ (Array.mk [(56 : Nat), (9 : Nat)]) (0 : Nat)
 (Array.mk [Value.map (some (Array.size h)), Value.string s36]))
 h28 fun (v37 : Value) (h38 : Heap) =>
 v37 = Value.tuple (Array.mk []) ∧
 I13 a15 k16 k17 n18 (IntKind.i64.wrap (n19 + (1 : Int))) h38 ∧
 I14 a15 k16 k17 n18 (IntKind.i64.wrap (n19 + (1 : Int))) h38 < I14 a15 k16 k17 n18 n19 h20)
 (∃ (s39 : ByteArray),
 Reads Try.prog (Instr.loadAt (9 : Nat) (Value.pointer (some (Addr.mk (Array.size h20) (0 : Nat) none)))) h28
 (Value.string s39) ∧
 ∃ (s40 : ByteArray),
 Reads Try.prog (Instr.loadAt (9 : Nat) (Value.pointer (some ((Addr.mk (Array.size h20) (0 : Nat) none).add (2 : Nat)))))
 h28 (Value.string s40) ∧
 SVC Try.prog (Instr.mapUpdate (56 : Nat) (Value.map (some (Array.size h))) (Value.string s39) (Value.string s40)) h28
 fun (x41 : Unit) (h42 : Heap) =>
 I13 a15 k16 k17 n18 (IntKind.i64.wrap (n19 + (1 : Int))) h42 ∧
 I14 a15 k16 k17 n18 (IntKind.i64.wrap (n19 + (1 : Int))) h42 < I14 a15 k16 k17 n18 n19 h20)))
 (HC Try.prog (34 : Nat) (Array.mk [Value.map (some (Array.size h))]) h20 fun (v43 : Value) (h44 : Heap) =>
 ∃ (a45 : Option Addr),
 ∃ (k46 : Nat), ∃ (k47 : Nat), v43 = Value.slice a45 k46 k47 ∧ R (Value.tuple (Array.mk [Value.slice a45 k46 k47, Value.int IntKind.i64 (0 : Int)])) h44))) := by kernel_rfl

theorem vc26 (A0 : Option Addr) (n0 c0 : Nat) (A1 : Option Addr) (n1 c1 : Nat) (h : Heap) (R : Value → Heap → Prop) :
    vcF Try.prog Try.f26 45 [] [] [.slice A0 n0 c0, .slice A1 n1 c1] h R =
(∃ (I0 : Option Addr → Nat → Nat → Option Addr → Nat → Nat → Int → Int → Heap → Prop),
 ∃ (I1 : Option Addr → Nat → Nat → Option Addr → Nat → Nat → Int → Int → Heap → Nat),
 I0 A0 n0 c0 none (0 : Nat) (0 : Nat) (0 : Int) (0 : Int) h ∧
 ∀ (a2 : Option Addr) (k3 k4 : Nat) (a5 : Option Addr) (k6 k7 : Nat) (n8 n9 : Int) (h10 : Heap),
 I0 a2 k3 k4 a5 k6 k7 n8 n9 h10 →
 br (decide (n9 < (↑n1 : Int)))
 (∃ (p11 : Addr),
 (A1 = some p11 ∧ (0 : Int) ≤ n9 ∧ n9 < (↑n1 : Int)) ∧
 ∃ (s12 : ByteArray),
 ∃ (s13 : ByteArray),
 ∃ (s14 : ByteArray),
 ∃ (b15 : Bool),
 ∃ (b16 : Bool),
 Reads Try.prog (Instr.loadAt (40 : Nat) (Value.pointer (some (p11.add (n9.toNat * (5 : Nat)))))) h10
 (Value.agg (Array.mk [Value.string s12, Value.string s13, Value.string s14, Value.bool b15, Value.bool b16])) ∧
 SVC Try.prog
 (Instr.storeAt (40 : Nat) (Value.pointer (some (Addr.mk (Array.size h10) (0 : Nat) none)))
 (Value.agg (Array.mk [Value.string s12, Value.string s13, Value.string s14, Value.bool b15, Value.bool b16])))
 (Array.push h10
 (Obj.cells
 (Array.mk
 [Value.string (ByteArray.mk (Array.mk [])), Value.string (ByteArray.mk (Array.mk [])), Value.string (ByteArray.mk (Array.mk [])), Value.bool false,
 Value.bool false])
 (40 : Nat)))
 fun (x17 : Unit) (h18 : Heap) =>
 ∃ (s19 : ByteArray),
 Reads Try.prog (Instr.loadAt (9 : Nat) (Value.pointer (some (Addr.mk (Array.size h10) (0 : Nat) none)))) h18 (Value.string s19) ∧
 HC Try.prog (24 : Nat) (Array.mk [Value.slice a2 k3 k4, Value.string s19]) h18 fun (v20 : Value) (h21 : Heap) =>
 ∃ (s22 : ByteArray),
 ∃ (b23 : Bool),
 v20 = Value.tuple (Array.mk [Value.string s22, Value.bool b23]) ∧
 ∃ (s24 : ByteArray),
 Reads Try.prog (Instr.loadAt (9 : Nat) (Value.pointer (some ((Addr.mk (Array.size h10) (0 : Nat) none).add (1 : Nat))))) h21 (Value.string s24) ∧
 ∃ (b25 : Bool),
 ((!!s22.toList == s24.toList) = true →
 Reads Try.prog (Instr.loadAt (4 : Nat) (Value.pointer (some ((Addr.mk (Array.size h10) (0 : Nat) none).add (3 : Nat))))) h21 (Value.bool b25)) ∧
 ∃ (b26 : Bool),
 ((!!s22.toList == s24.toList) = true →
 Reads Try.prog (eqSem BinOp.neq (4 : Nat) (Operand.tmp (28 : Nat)) (Operand.tmp (30 : Nat)) (Value.bool b23) (Value.bool b25)) h21
 (Value.bool b26)) ∧
 br (!s22.toList == s24.toList || b26) (R (Value.tuple (Array.mk [Value.slice none (0 : Nat) (0 : Nat), Value.int IntKind.i64 (4 : Int)])) h21)
 (∃ (s27 : ByteArray),
 Reads Try.prog (Instr.loadAt (9 : Nat) (Value.pointer (some (Addr.mk (Array.size h10) (0 : Nat) none)))) h21 (Value.string s27) ∧
 ∃ (s28 : ByteArray),
 Reads Try.prog (Instr.loadAt (9 : Nat) (Value.pointer (some ((Addr.mk (Array.size h10) (0 : Nat) none).add (2 : Nat))))) h21
 (Value.string s28) ∧
 ∃ (b29 : Bool),
 Reads Try.prog (Instr.loadAt (4 : Nat) (Value.pointer (some ((Addr.mk (Array.size h10) (0 : Nat) none).add (4 : Nat))))) h21
 (Value.bool b29) ∧
 HC Try.prog (35 : Nat) (Array.mk [Value.slice a2 k3 k4, Value.agg (Array.mk [Value.string s27, Value.string s28, Value.bool !b29])])
 h21 fun (v30 : Value) (h31 : Heap) =>
 ∃ (a32 : Option Addr),
 ∃ (k33 : Nat),
 ∃ (k34 : Nat),
 v30 = Value.slice a32 k33 k34 ∧
 I0 a32 k33 k34 a5 k6 k7 n8 (IntKind.i64.wrap (n9 + (1 : Int))) h31 ∧
 I1 a32 k33 k34 a5 k6 k7 n8 (IntKind.i64.wrap (n9 + (1 : Int))) h31 < I1 a2 k3 k4 a5 k6 k7 n8 n9 h10))
 (R (Value.tuple (Array.mk [Value.slice a2 k3 k4, Value.int IntKind.i64 (0 : Int)])) h10)) := by kernel_rfl

theorem vc27 (A0 : Option Addr) (n0 c0 : Nat) (h : Heap) (R : Value → Heap → Prop) :
    vcF Try.prog Try.f27 32 [] [] [.slice A0 n0 c0] h R =
(∃ (I0 : Option Addr → Nat → Nat → Int → Heap → Prop),
 ∃ (I1 : Option Addr → Nat → Nat → Int → Heap → Nat),
 I0 none (0 : Nat) (0 : Nat) (IntKind.i64.wrap ((↑n0 : Int) - (1 : Int))) h ∧
 ∀ (a2 : Option Addr) (k3 k4 : Nat) (n5 : Int) (h6 : Heap),
 I0 a2 k3 k4 n5 h6 →
 br (decide (n5 ≥ (0 : Int)))
 (∃ (p7 : Addr),
 (A0 = some p7 ∧ (0 : Int) ≤ n5 ∧ n5 < (↑n0 : Int)) ∧
 ∃ (s8 : ByteArray),
 ∃ (s9 : ByteArray),
 ∃ (s10 : ByteArray),
 ∃ (b11 : Bool),
 ∃ (b12 : Bool),
 Reads Try.prog (Instr.loadAt (40 : Nat) (Value.pointer (some (p7.add (n5.toNat * (5 : Nat)))))) h6
 (Value.agg (Array.mk [Value.string s8, Value.string s9, Value.string s10, Value.bool b11, Value.bool b12])) ∧
 SVC Try.prog
 (Instr.storeAt (40 : Nat) (Value.pointer (some (Addr.mk (Array.size h6) (0 : Nat) none)))
 (Value.agg (Array.mk [Value.string s8, Value.string s9, Value.string s10, Value.bool b11, Value.bool b12])))
 (Array.push h6
 (Obj.cells
 (Array.mk
 [Value.string (ByteArray.mk (Array.mk [])), Value.string (ByteArray.mk (Array.mk [])), Value.string (ByteArray.mk (Array.mk [])), Value.bool false,
 Value.bool false])
 (40 : Nat)))
 fun (x13 : Unit) (h14 : Heap) =>
 ∃ (s15 : ByteArray),
 Reads Try.prog (Instr.loadAt (9 : Nat) (Value.pointer (some (Addr.mk (Array.size h6) (0 : Nat) none)))) h14 (Value.string s15) ∧
 ∃ (s16 : ByteArray),
 Reads Try.prog (Instr.loadAt (9 : Nat) (Value.pointer (some ((Addr.mk (Array.size h6) (0 : Nat) none).add (2 : Nat))))) h14 (Value.string s16) ∧
 ∃ (s17 : ByteArray),
 Reads Try.prog (Instr.loadAt (9 : Nat) (Value.pointer (some ((Addr.mk (Array.size h6) (0 : Nat) none).add (1 : Nat))))) h14 (Value.string s17) ∧
 ∃ (b18 : Bool),
 Reads Try.prog (Instr.loadAt (4 : Nat) (Value.pointer (some ((Addr.mk (Array.size h6) (0 : Nat) none).add (4 : Nat))))) h14 (Value.bool b18) ∧
 ∃ (b19 : Bool),
 Reads Try.prog (Instr.loadAt (4 : Nat) (Value.pointer (some ((Addr.mk (Array.size h6) (0 : Nat) none).add (3 : Nat))))) h14 (Value.bool b19) ∧
 SVC Try.prog
 (Instr.buildSlice (26 : Nat) (1 : Nat)
 (Array.mk [((0 : Nat), Value.agg (Array.mk [Value.string s15, Value.string s16, Value.string s17, Value.bool b18, Value.bool b19]))]))
 h14 fun (v20 : Value) (h21 : Heap) =>
 ∃ (a22 : Option Addr),
 ∃ (k23 : Nat),
 ∃ (k24 : Nat),
 v20 = Value.slice a22 k23 k24 ∧
 SVC Try.prog (Builtin.append_ (Array.mk [(26 : Nat), (26 : Nat)]) (26 : Nat) (Array.mk [Value.slice a2 k3 k4, Value.slice a22 k23 k24])) h21
 fun (v25 : Value) (h26 : Heap) =>
 ∃ (a27 : Option Addr),
 ∃ (k28 : Nat),
 ∃ (k29 : Nat),
 v25 = Value.slice a27 k28 k29 ∧
 I0 a27 k28 k29 (IntKind.i64.wrap (n5 - (1 : Int))) h26 ∧
 I1 a27 k28 k29 (IntKind.i64.wrap (n5 - (1 : Int))) h26 < I1 a2 k3 k4 n5 h6)
 (R (Value.slice a2 k3 k4) h6)) := by kernel_rfl

theorem vc9 (A0 : Option Addr) (n0 c0 : Nat) (A1 : Option Addr) (n1 c1 : Nat) (h : Heap) (R : Value → Heap → Prop) :
    vcF Try.prog Try.f9 59 [] [] [.slice A0 n0 c0, .slice A1 n1 c1] h R =
(HC Try.prog (13 : Nat) (Array.mk []) h fun (v0 : Value) (h1 : Heap) =>
 ∃ (b2 : Bool),
 v0 = Value.bool b2 ∧
 br (!b2) (R (Value.bool false) h1)
 (HC Try.prog (14 : Nat) (Array.mk [Value.slice A0 n0 c0]) h1 fun (v3 : Value) (h4 : Heap) =>
 ∃ (b5 : Bool),
 v3 = Value.bool b5 ∧
 br (b5 || decide ((↑n1 : Int) > (60 : Int))) (R (Value.bool true) h4)
 (∃ (I6 : Bool → Int → Heap → Prop),
 ∃ (I7 : Bool → Int → Heap → Nat),
 I6 false (0 : Int) h4 ∧
 ∀ (b8 : Bool) (n9 : Int) (h10 : Heap),
 I6 b8 n9 h10 →
 br (decide (n9 < (↑n1 : Int)))
 (∃ (p11 : Addr),
 (A1 = some p11 ∧ (0 : Int) ≤ n9 ∧ n9 < (↑n1 : Int)) ∧
 ∃ (s12 : ByteArray),
 ∃ (s13 : ByteArray),
 ∃ (s14 : ByteArray),
 ∃ (b15 : Bool),
 ∃ (b16 : Bool),
 Reads Try.prog (Instr.loadAt (40 : Nat) (Value.pointer (some (p11.add (n9.toNat * (5 : Nat)))))) h10
 (Value.agg (Array.mk [Value.string s12, Value.string s13, Value.string s14, Value.bool b15, Value.bool b16])) ∧
 SVC Try.prog
 (Instr.storeAt (40 : Nat) (Value.pointer (some (Addr.mk (Array.size h10) (0 : Nat) none)))
 (Value.agg (Array.mk [Value.string s12, Value.string s13, Value.string s14, Value.bool b15, Value.bool b16])))
 (Array.push h10
 (Obj.cells
 (Array.mk
 [Value.string (ByteArray.mk (Array.mk [])), Value.string (ByteArray.mk (Array.mk [])), Value.string (ByteArray.mk (Array.mk [])), Value.bool false,
 Value.bool false])
 (40 : Nat)))
 fun (x17 : Unit) (h18 : Heap) =>
 ∃ (s19 : ByteArray),
 Reads Try.prog (Instr.loadAt (9 : Nat) (Value.pointer (some (Addr.mk (Array.size h10) (0 : Nat) none)))) h18 (Value.string s19) ∧
 ∃ (s20 : ByteArray),
 Reads Try.prog (Instr.loadAt (9 : Nat) (Value.pointer (some ((Addr.mk (Array.size h10) (0 : Nat) none).add (2 : Nat))))) h18 (Value.string s20) ∧
 ∃ (s21 : ByteArray),
 Reads Try.prog (Instr.loadAt (9 : Nat) (Value.pointer (some ((Addr.mk (Array.size h10) (0 : Nat) none).add (1 : Nat))))) h18
 (Value.string s21) ∧
 br (decide (IntKind.i64.wrap (IntKind.i64.wrap ((↑s19.size : Int) + (↑s20.size : Int)) + (↑s21.size : Int)) > (1024 : Int)))
 (R (Value.bool true) h18) (I6 b8 (IntKind.i64.wrap (n9 + (1 : Int))) h18 ∧ I7 b8 (IntKind.i64.wrap (n9 + (1 : Int))) h18 < I7 b8 n9 h10))
 (HC Try.prog (25 : Nat) (Array.mk [Value.slice A0 n0 c0, Value.slice A1 n1 c1]) h10 fun (v22 : Value) (h23 : Heap) =>
 ∃ (a24 : Option Addr),
 ∃ (k25 : Nat),
 ∃ (k26 : Nat),
 ∃ (n27 : Int),
 v22 = Value.tuple (Array.mk [Value.slice a24 k25 k26, Value.int IntKind.i64 n27]) ∧
 HC Try.prog (26 : Nat) (Array.mk [Value.slice A0 n0 c0, Value.slice A1 n1 c1]) h23 fun (v28 : Value) (h29 : Heap) =>
 ∃ (a30 : Option Addr),
 ∃ (k31 : Nat),
 ∃ (k32 : Nat),
 ∃ (n33 : Int),
 v28 = Value.tuple (Array.mk [Value.slice a30 k31 k32, Value.int IntKind.i64 n33]) ∧
 br (Decidable.rec (fun (I35 : n27 = n33 → False) => false) (fun (x36 : n27 = n33) => true) (n27.instDecidableEq n33))
 (HC Try.prog (22 : Nat) (Array.mk [Value.slice a24 k25 k26, Value.slice a30 k31 k32]) h29 fun (v37 : Value) (h38 : Heap) =>
 ∃ (b39 : Bool), v37 = Value.bool b39 ∧ R (Value.bool b39) h38)
 (R (Value.bool false) h29))))) := by kernel_rfl

theorem vc10 (A0 : Option Addr) (n0 c0 : Nat) (A1 : Option Addr) (n1 c1 : Nat) (A2 : Option Addr) (n2 c2 : Nat) (h : Heap) (R : Value → Heap → Prop) :
    vcF Try.prog Try.f10 65 [] [] [.slice A0 n0 c0, .slice A1 n1 c1, .slice A2 n2 c2] h R =
(HC Try.prog (13 : Nat) (Array.mk []) h fun (v0 : Value) (h1 : Heap) =>
 ∃ (b2 : Bool),
 v0 = Value.bool b2 ∧
 br (!b2) (R (Value.bool false) h1)
 (HC Try.prog (14 : Nat) (Array.mk [Value.slice A0 n0 c0]) h1 fun (v3 : Value) (h4 : Heap) =>
 ∃ (b5 : Bool),
 v3 = Value.bool b5 ∧
 br (bif b5 then false else true)
 (HC Try.prog (14 : Nat) (Array.mk [Value.slice A1 n1 c1]) h4 fun (v6 : Value) (h7 : Heap) =>
 ∃ (b8 : Bool),
 v6 = Value.bool b8 ∧
 br (bif b8 then false else true)
 (HC Try.prog (14 : Nat) (Array.mk [Value.slice A2 n2 c2]) h7 fun (v9 : Value) (h10 : Heap) =>
 ∃ (b11 : Bool),
 v9 = Value.bool b11 ∧
 br b11 (R (Value.bool true) h10)
 (HC Try.prog (16 : Nat) (Array.mk [Value.slice A0 n0 c0, Value.slice A1 n1 c1]) h10 fun (v12 : Value) (h13 : Heap) =>
 ∃ (a14 : Option Addr),
 ∃ (k15 : Nat),
 ∃ (k16 : Nat),
 v12 = Value.slice a14 k15 k16 ∧
 HC Try.prog (16 : Nat) (Array.mk [Value.slice A1 n1 c1, Value.slice A2 n2 c2]) h13 fun (v17 : Value) (h18 : Heap) =>
 ∃ (a19 : Option Addr),
 ∃ (k20 : Nat),
 ∃ (k21 : Nat),
 v17 = Value.slice a19 k20 k21 ∧
 SVC Try.prog (Instr.buildSlice (26 : Nat) (0 : Nat) (Array.mk [])) h18 fun (v22 : Value) (h23 : Heap) =>
 ∃ (a24 : Option Addr),
 ∃ (k25 : Nat),
 ∃ (k26 : Nat),
 v22 = Value.slice a24 k25 k26 ∧
 SVC Try.prog
 (Builtin.append_ (Array.mk [(26 : Nat), (26 : Nat)]) (26 : Nat) (Array.mk [Value.slice a24 k25 k26, Value.slice a14 k15 k16])) h23
 fun (v27 : Value) (h28 : Heap) =>
 ∃ (a29 : Option Addr),
 ∃ (k30 : Nat),
 ∃ (k31 : Nat),
 v27 = Value.slice a29 k30 k31 ∧
 SVC Try.prog
 (Builtin.append_ (Array.mk [(26 : Nat), (26 : Nat)]) (26 : Nat) (Array.mk [Value.slice a29 k30 k31, Value.slice a19 k20 k21]))
 h28 fun (v32 : Value) (h33 : Heap) =>
 ∃ (a34 : Option Addr),
 ∃ (k35 : Nat),
 ∃ (k36 : Nat),
 v32 = Value.slice a34 k35 k36 ∧
 HC Try.prog (25 : Nat) (Array.mk [Value.slice A0 n0 c0, Value.slice a34 k35 k36]) h33
 fun (v37 : Value) (h38 : Heap) =>
 ∃ (a39 : Option Addr),
 ∃ (k40 : Nat),
 ∃ (k41 : Nat),
 ∃ (n42 : Int),
 v37 = Value.tuple (Array.mk [Value.slice a39 k40 k41, Value.int IntKind.i64 n42]) ∧
 HC Try.prog (16 : Nat) (Array.mk [Value.slice A0 n0 c0, Value.slice A2 n2 c2]) h38
 fun (v43 : Value) (h44 : Heap) =>
 ∃ (a45 : Option Addr),
 ∃ (k46 : Nat),
 ∃ (k47 : Nat),
 v43 = Value.slice a45 k46 k47 ∧
 HC Try.prog (25 : Nat) (Array.mk [Value.slice A0 n0 c0, Value.slice a45 k46 k47]) h44
 fun (v48 : Value) (h49 : Heap) =>
 ∃ (a50 : Option Addr),
 ∃ (k51 : Nat),
 ∃ (k52 : Nat),
 ∃ (n53 : Int),
 v48 = Value.tuple (Array.mk [Value.slice a50 k51 k52, Value.int IntKind.i64 n53]) ∧
 br (n42 == (0 : Int) && n53 == (0 : Int))
 (HC Try.prog (22 : Nat) (Array.mk [Value.slice a39 k40 k41, Value.slice A2 n2 c2])
 h49 fun (v54 : Value) (h55 : Heap) =>
 ∃ (b56 : Bool),
 v54 = Value.bool b56 ∧
 br b56
 (HC Try.prog (22 : Nat)
 (Array.mk [Value.slice a50 k51 k52, Value.slice A2 n2 c2]) h55
 fun (v57 : Value) (h58 : Heap) =>
 ∃ (b59 : Bool), v57 = Value.bool b59 ∧ R (Value.bool b59) h58)
 (R (Value.bool false) h55))
 (R (Value.bool false) h49)))
 (R (Value.bool true) h7))
 (R (Value.bool true) h4))) := by kernel_rfl

theorem vc11 (A0 : Option Addr) (n0 c0 : Nat) (A1 : Option Addr) (n1 c1 : Nat) (h : Heap) (R : Value → Heap → Prop) :
    vcF Try.prog Try.f11 57 [] [] [.slice A0 n0 c0, .slice A1 n1 c1] h R =
(HC Try.prog (13 : Nat) (Array.mk []) h fun (v0 : Value) (h1 : Heap) =>
 ∃ (b2 : Bool),
 v0 = Value.bool b2 ∧
 br (!b2) (R (Value.bool false) h1)
 (HC Try.prog (14 : Nat) (Array.mk [Value.slice A0 n0 c0]) h1 fun (v3 : Value) (h4 : Heap) =>
 ∃ (b5 : Bool),
 v3 = Value.bool b5 ∧
 br (bif b5 then false else true)
 (HC Try.prog (14 : Nat) (Array.mk [Value.slice A1 n1 c1]) h4 fun (v6 : Value) (h7 : Heap) =>
 ∃ (b8 : Bool),
 v6 = Value.bool b8 ∧
 br b8 (R (Value.bool true) h7)
 (HC Try.prog (16 : Nat) (Array.mk [Value.slice A0 n0 c0, Value.slice A1 n1 c1]) h7 fun (v9 : Value) (h10 : Heap) =>
 ∃ (a11 : Option Addr),
 ∃ (k12 : Nat),
 ∃ (k13 : Nat),
 v9 = Value.slice a11 k12 k13 ∧
 HC Try.prog (25 : Nat) (Array.mk [Value.slice A0 n0 c0, Value.slice a11 k12 k13]) h10 fun (v14 : Value) (h15 : Heap) =>
 ∃ (a16 : Option Addr),
 ∃ (k17 : Nat),
 ∃ (k18 : Nat),
 ∃ (n19 : Int),
 v14 = Value.tuple (Array.mk [Value.slice a16 k17 k18, Value.int IntKind.i64 n19]) ∧
 HC Try.prog (27 : Nat) (Array.mk [Value.slice a11 k12 k13]) h15 fun (v20 : Value) (h21 : Heap) =>
 ∃ (a22 : Option Addr),
 ∃ (k23 : Nat),
 ∃ (k24 : Nat),
 v20 = Value.slice a22 k23 k24 ∧
 HC Try.prog (25 : Nat) (Array.mk [Value.slice A1 n1 c1, Value.slice a22 k23 k24]) h21 fun (v25 : Value) (h26 : Heap) =>
 ∃ (a27 : Option Addr),
 ∃ (k28 : Nat),
 ∃ (k29 : Nat),
 ∃ (n30 : Int),
 v25 = Value.tuple (Array.mk [Value.slice a27 k28 k29, Value.int IntKind.i64 n30]) ∧
 br (n19 == (0 : Int) && n30 == (0 : Int))
 (HC Try.prog (22 : Nat) (Array.mk [Value.slice a16 k17 k18, Value.slice A1 n1 c1]) h26 fun (v31 : Value) (h32 : Heap) =>
 ∃ (b33 : Bool),
 v31 = Value.bool b33 ∧
 br b33
 (HC Try.prog (22 : Nat) (Array.mk [Value.slice a27 k28 k29, Value.slice A0 n0 c0]) h32 fun (v34 : Value) (h35 : Heap) =>
 ∃ (b36 : Bool),
 v34 = Value.bool b36 ∧
 br b36
 (HC Try.prog (27 : Nat) (Array.mk [Value.slice a11 k12 k13]) h35 fun (v37 : Value) (h38 : Heap) =>
 ∃ (a39 : Option Addr),
 ∃ (k40 : Nat),
 ∃ (k41 : Nat),
 v37 = Value.slice a39 k40 k41 ∧
 HC Try.prog (27 : Nat) (Array.mk [Value.slice a39 k40 k41]) h38 fun (v42 : Value) (h43 : Heap) =>
 ∃ (a44 : Option Addr),
 ∃ (k45 : Nat),
 ∃ (k46 : Nat),
 v42 = Value.slice a44 k45 k46 ∧
 HC Try.prog (15 : Nat) (Array.mk [Value.slice a44 k45 k46, Value.slice a11 k12 k13]) h43
 fun (v47 : Value) (h48 : Heap) =>
 ∃ (b49 : Bool), v47 = Value.bool b49 ∧ R (Value.bool b49) h48)
 (R (Value.bool false) h35))
 (R (Value.bool false) h32))
 (R (Value.bool false) h26)))
 (R (Value.bool true) h4))) := by kernel_rfl

theorem vc12 (A0 : Option Addr) (n0 c0 : Nat) (A1 : Option Addr) (n1 c1 : Nat) (h : Heap) (R : Value → Heap → Prop) :
    vcF Try.prog Try.f12 63 [] [] [.slice A0 n0 c0, .slice A1 n1 c1] h R =
(HC Try.prog (13 : Nat) (Array.mk []) h fun (v0 : Value) (h1 : Heap) =>
 ∃ (b2 : Bool),
 v0 = Value.bool b2 ∧
 br (!b2) (R (Value.bool false) h1)
 (HC Try.prog (14 : Nat) (Array.mk [Value.slice A0 n0 c0]) h1 fun (v3 : Value) (h4 : Heap) =>
 ∃ (b5 : Bool),
 v3 = Value.bool b5 ∧
 br (bif b5 then false else true)
 (HC Try.prog (14 : Nat) (Array.mk [Value.slice A1 n1 c1]) h4 fun (v6 : Value) (h7 : Heap) =>
 ∃ (b8 : Bool),
 v6 = Value.bool b8 ∧
 br b8 (R (Value.bool true) h7)
 (SVC Try.prog (Instr.buildSlice (22 : Nat) (0 : Nat) (Array.mk [])) h7 fun (v9 : Value) (h10 : Heap) =>
 ∃ (a11 : Option Addr),
 ∃ (k12 : Nat),
 ∃ (k13 : Nat),
 v9 = Value.slice a11 k12 k13 ∧
 SVC Try.prog (Builtin.append_ (Array.mk [(22 : Nat), (22 : Nat)]) (22 : Nat) (Array.mk [Value.slice a11 k12 k13, Value.slice A0 n0 c0])) h10
 fun (v14 : Value) (h15 : Heap) =>
 ∃ (a16 : Option Addr),
 ∃ (k17 : Nat),
 ∃ (k18 : Nat),
 v14 = Value.slice a16 k17 k18 ∧
 SVC Try.prog (Instr.buildSlice (22 : Nat) (0 : Nat) (Array.mk [])) h15 fun (v19 : Value) (h20 : Heap) =>
 ∃ (a21 : Option Addr),
 ∃ (k22 : Nat),
 ∃ (k23 : Nat),
 v19 = Value.slice a21 k22 k23 ∧
 SVC Try.prog (Builtin.append_ (Array.mk [(22 : Nat), (22 : Nat)]) (22 : Nat) (Array.mk [Value.slice a21 k22 k23, Value.slice A1 n1 c1])) h20
 fun (v24 : Value) (h25 : Heap) =>
 ∃ (a26 : Option Addr),
 ∃ (k27 : Nat),
 ∃ (k28 : Nat),
 v24 = Value.slice a26 k27 k28 ∧
 HC Try.prog (16 : Nat) (Array.mk [Value.slice a16 k17 k18, Value.slice a26 k27 k28]) h25 fun (v29 : Value) (h30 : Heap) =>
 ∃ (a31 : Option Addr),
 ∃ (k32 : Nat),
 ∃ (k33 : Nat),
 v29 = Value.slice a31 k32 k33 ∧
 SVC Try.prog (Instr.buildSlice (26 : Nat) (0 : Nat) (Array.mk [])) h30 fun (v34 : Value) (h35 : Heap) =>
 ∃ (a36 : Option Addr),
 ∃ (k37 : Nat),
 ∃ (k38 : Nat),
 v34 = Value.slice a36 k37 k38 ∧
 SVC Try.prog
 (Builtin.append_ (Array.mk [(26 : Nat), (26 : Nat)]) (26 : Nat)
 (Array.mk [Value.slice a36 k37 k38, Value.slice a31 k32 k33]))
 h35 fun (v39 : Value) (h40 : Heap) =>
 ∃ (a41 : Option Addr),
 ∃ (k42 : Nat),
 ∃ (k43 : Nat),
 v39 = Value.slice a41 k42 k43 ∧
 HC Try.prog (25 : Nat) (Array.mk [Value.slice a16 k17 k18, Value.slice a41 k42 k43]) h40
 fun (v44 : Value) (h45 : Heap) =>
 ∃ (a46 : Option Addr),
 ∃ (k47 : Nat),
 ∃ (k48 : Nat),
 ∃ (n49 : Int),
 v44 = Value.tuple (Array.mk [Value.slice a46 k47 k48, Value.int IntKind.i64 n49]) ∧
 HC Try.prog (27 : Nat) (Array.mk [Value.slice a41 k42 k43]) h45
 fun (v50 : Value) (h51 : Heap) =>
 ∃ (a52 : Option Addr),
 ∃ (k53 : Nat),
 ∃ (k54 : Nat),
 v50 = Value.slice a52 k53 k54 ∧
 ∃ (I55 : Int → Heap → Prop),
 ∃ (I56 : Int → Heap → Nat),
 I55 (0 : Int) h51 ∧
 ∀ (n57 : Int) (h58 : Heap),
 I55 n57 h58 →
 br (decide (n57 < (↑k47 : Int)))
 (∃ (p59 : Addr),
 (a46 = some p59 ∧ (0 : Int) ≤ n57 ∧ n57 < (↑k47 : Int)) ∧
 SVC Try.prog
 (Instr.storeAt (9 : Nat)
 (Value.pointer (some (p59.add (n57.toNat * (2 : Nat)))))
 (Value.string (ByteArray.mk (Array.mk [(63 : UInt8)]))))
 h58 fun (x60 : Unit) (h61 : Heap) =>
 I55 (IntKind.i64.wrap (n57 + (1 : Int))) h61 ∧
 I56 (IntKind.i64.wrap (n57 + (1 : Int))) h61 < I56 n57 h58)
 (HC Try.prog (22 : Nat)
 (Array.mk [Value.slice a16 k17 k18, Value.slice A0 n0 c0]) h58
 fun (v62 : Value) (h63 : Heap) =>
 ∃ (b64 : Bool),
 v62 = Value.bool b64 ∧
 br b64
 (HC Try.prog (22 : Nat)
 (Array.mk [Value.slice a26 k27 k28, Value.slice A1 n1 c1]) h63
 fun (v65 : Value) (h66 : Heap) =>
 ∃ (b67 : Bool),
 v65 = Value.bool b67 ∧
 br b67
 (HC Try.prog (15 : Nat)
 (Array.mk
 [Value.slice a31 k32 k33, Value.slice a41 k42 k43])
 h66 fun (v68 : Value) (h69 : Heap) =>
 ∃ (b70 : Bool),
 v68 = Value.bool b70 ∧ R (Value.bool b70) h69)
 (R (Value.bool false) h66))
 (R (Value.bool false) h63))))
 (R (Value.bool true) h4))) := by kernel_rfl
end Go.Proofs.Ytepnckpaknabpaa
