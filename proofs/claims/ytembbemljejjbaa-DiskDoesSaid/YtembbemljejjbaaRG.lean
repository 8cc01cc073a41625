/-
  What calls of the reference and of the disk's looks come to, as the symbolic run tells it: by the kernel's own reckoning. Conditions: none.
-/
import Derived.Test.YtembbemljejjbaaVcE
import Derived.Test.YtembbemljejjbaaProg
import Derived.KernelRfl
set_option linter.unusedVariables false
set_option maxRecDepth 100000
namespace Go.Proofs.Ytembbemljejjbaa
open Go Go.Vc Go.Proofs

theorem vcGet (A : Option Addr) (n c : Nat) (s : ByteArray) (h : Heap) (R : Value → Heap → Prop) :
    vcF Try.prog Try.f92 22 [] [] [.slice A n c, .string s] h R =
(∃ (I0 : Bool → Int → Heap → Prop),
 ∃ (I1 : Bool → Int → Heap → Nat),
 I0 false (0 : Int) (Array.push h (Obj.cells (Array.mk [Value.string (ByteArray.mk (Array.mk [])), Value.slice none (0 : Nat) (0 : Nat)]) (65 : Nat))) ∧
 ∀ (b2 : Bool) (n3 : Int) (h4 : Heap),
 I0 b2 n3 h4 →
 br (decide (n3 < (↑n : Int)))
 (∃ (p5 : Addr),
 (A = some p5 ∧ (0 : Int) ≤ n3 ∧ n3 < (↑n : Int)) ∧
 ∃ (s6 : ByteArray),
 ∃ (a7 : Option Addr),
 ∃ (k8 : Nat),
 ∃ (k9 : Nat),
 Reads Try.prog (Instr.loadAt (65 : Nat) (Value.pointer (some (p5.add (n3.toNat * (2 : Nat)))))) h4 (Value.agg (Array.mk [Value.string s6, Value.slice a7 k8 k9])) ∧
 SVC Try.prog (Instr.storeAt (65 : Nat) (Value.pointer (some (Addr.mk (Array.size h4) (0 : Nat) none))) (Value.agg (Array.mk [Value.string s6, Value.slice a7 k8 k9])))
 (Array.push h4 (Obj.cells (Array.mk [Value.string (ByteArray.mk (Array.mk [])), Value.slice none (0 : Nat) (0 : Nat)]) (65 : Nat))) fun (x10 : Unit) (h11 : Heap) =>
 ∃ (s12 : ByteArray),
 Reads Try.prog (Instr.loadAt (9 : Nat) (Value.pointer (some (Addr.mk (Array.size h4) (0 : Nat) none)))) h11 (Value.string s12) ∧
 br (s12.toList == s.toList)
 (∃ (s13 : ByteArray),
 ∃ (a14 : Option Addr),
 ∃ (k15 : Nat),
 ∃ (k16 : Nat),
 Reads Try.prog (Instr.loadAt (65 : Nat) (Value.pointer (some (Addr.mk (Array.size h4) (0 : Nat) none)))) h11
 (Value.agg (Array.mk [Value.string s13, Value.slice a14 k15 k16])) ∧
 SVC Try.prog
 (Instr.storeAt (65 : Nat) (Value.pointer (some (Addr.mk (Array.size h) (0 : Nat) none)))
 (Value.agg (Array.mk [Value.string s13, Value.slice a14 k15 k16])))
 h11 fun (x17 : Unit) (h18 : Heap) =>
 ∃ (s19 : ByteArray),
 ∃ (a20 : Option Addr),
 ∃ (k21 : Nat),
 ∃ (k22 : Nat),
 Reads Try.prog (loadVar (65 : Nat) (Addr.mk (Array.size h) (0 : Nat) none)) h18
 (Value.agg (Array.mk [Value.string s19, Value.slice a20 k21 k22])) ∧
 R (Value.tuple (Array.mk [Value.agg (Array.mk [Value.string s19, Value.slice a20 k21 k22]), Value.bool true])) h18)
 (I0 b2 (IntKind.i64.wrap (n3 + (1 : Int))) h11 ∧ I1 b2 (IntKind.i64.wrap (n3 + (1 : Int))) h11 < I1 b2 n3 h4))
 (SVC Try.prog (Instr.storeAt (65 : Nat) (Value.pointer (some (Addr.mk (Array.size h) (0 : Nat) none))) (Value.agg (Array.mk [Value.string s, Value.slice none (0 : Nat) (0 : Nat)]))) h4
 fun (x23 : Unit) (h24 : Heap) =>
 ∃ (s25 : ByteArray),
 ∃ (a26 : Option Addr),
 ∃ (k27 : Nat),
 ∃ (k28 : Nat),
 Reads Try.prog (loadVar (65 : Nat) (Addr.mk (Array.size h) (0 : Nat) none)) h24 (Value.agg (Array.mk [Value.string s25, Value.slice a26 k27 k28])) ∧
 R (Value.tuple (Array.mk [Value.agg (Array.mk [Value.string s25, Value.slice a26 k27 k28]), Value.bool false])) h24)) := by kernel_rfl

theorem vcPut (A : Option Addr) (n c : Nat) (s : ByteArray) (B : Option Addr) (m d : Nat) (h : Heap) (R : Value → Heap → Prop) :
    vcF Try.prog Try.f94 45 [] [] [.slice A n c, .agg #[.string s, .slice B m d]] h R =
(∃ (I0 : Option Addr → Nat → Nat → Bool → Int → Heap → Prop),
 ∃ (I1 : Option Addr → Nat → Nat → Bool → Int → Heap → Nat),
 I0 none (0 : Nat) (0 : Nat) false (0 : Int) (Array.push h (Obj.cells (Array.mk [Value.string s, Value.slice B m d]) (65 : Nat))) ∧
 ∀ (a2 : Option Addr) (k3 k4 : Nat) (b5 : Bool) (n6 : Int) (h7 : Heap),
 I0 a2 k3 k4 b5 n6 h7 →
 br (decide (n6 < (↑n : Int)))
 (∃ (p8 : Addr),
 (A = some p8 ∧ (0 : Int) ≤ n6 ∧ n6 < (↑n : Int)) ∧
 ∃ (s9 : ByteArray),
 ∃ (a10 : Option Addr),
 ∃ (k11 : Nat),
 ∃ (k12 : Nat),
 Reads Try.prog (Instr.loadAt (65 : Nat) (Value.pointer (some (p8.add (n6.toNat * (2 : Nat)))))) h7 (Value.agg (Array.mk [Value.string s9, Value.slice a10 k11 k12])) ∧
 SVC Try.prog (Instr.storeAt (65 : Nat) (Value.pointer (some (Addr.mk (Array.size h7) (0 : Nat) none))) (Value.agg (Array.mk [Value.string s9, Value.slice a10 k11 k12])))
 (Array.push h7 (Obj.cells (Array.mk [Value.string (ByteArray.mk (Array.mk [])), Value.slice none (0 : Nat) (0 : Nat)]) (65 : Nat))) fun (x13 : Unit) (h14 : Heap) =>
 ∃ (s15 : ByteArray),
 ((!b5) = true → Reads Try.prog (Instr.loadAt (9 : Nat) (Value.pointer (some (Addr.mk (Array.size h7) (0 : Nat) none)))) h14 (Value.string s15)) ∧
 ∃ (s16 : ByteArray),
 ((!b5) = true → Reads Try.prog (Instr.loadAt (9 : Nat) (Value.pointer (some (Addr.mk (Array.size h) (0 : Nat) none)))) h14 (Value.string s16)) ∧
 br (!b5 && !Op.bytesLess s15.toList s16.toList)
 (∃ (s17 : ByteArray),
 ∃ (a18 : Option Addr),
 ∃ (k19 : Nat),
 ∃ (k20 : Nat),
 Reads Try.prog (Instr.loadAt (65 : Nat) (Value.pointer (some (Addr.mk (Array.size h) (0 : Nat) none)))) h14
 (Value.agg (Array.mk [Value.string s17, Value.slice a18 k19 k20])) ∧
 SVC Try.prog (Instr.buildSlice (60 : Nat) (1 : Nat) (Array.mk [((0 : Nat), Value.agg (Array.mk [Value.string s17, Value.slice a18 k19 k20]))])) h14
 fun (v21 : Value) (h22 : Heap) =>
 ∃ (a23 : Option Addr),
 ∃ (k24 : Nat),
 ∃ (k25 : Nat),
 v21 = Value.slice a23 k24 k25 ∧
 SVC Try.prog (Builtin.append_ (Array.mk [(60 : Nat), (60 : Nat)]) (60 : Nat) (Array.mk [Value.slice a2 k3 k4, Value.slice a23 k24 k25])) h22
 fun (v26 : Value) (h27 : Heap) =>
 ∃ (a28 : Option Addr),
 ∃ (k29 : Nat),
 ∃ (k30 : Nat),
 v26 = Value.slice a28 k29 k30 ∧
 ∃ (s31 : ByteArray),
 Reads Try.prog (Instr.loadAt (9 : Nat) (Value.pointer (some (Addr.mk (Array.size h7) (0 : Nat) none)))) h27 (Value.string s31) ∧
 ∃ (s32 : ByteArray),
 Reads Try.prog (Instr.loadAt (9 : Nat) (Value.pointer (some (Addr.mk (Array.size h) (0 : Nat) none)))) h27
 (Value.string s32) ∧
 br (!s31.toList == s32.toList)
 (∃ (s33 : ByteArray),
 ∃ (a34 : Option Addr),
 ∃ (k35 : Nat),
 ∃ (k36 : Nat),
 Reads Try.prog (Instr.loadAt (65 : Nat) (Value.pointer (some (Addr.mk (Array.size h7) (0 : Nat) none)))) h27
 (Value.agg (Array.mk [Value.string s33, Value.slice a34 k35 k36])) ∧
 SVC Try.prog
 (Instr.buildSlice (60 : Nat) (1 : Nat)
 (Array.mk [((0 : Nat), Value.agg (Array.mk [Value.string s33, Value.slice a34 k35 k36]))]))
 h27 fun (v37 : Value) (h38 : Heap) =>
 ∃ (a39 : Option Addr),
 ∃ (k40 : Nat),
 ∃ (k41 : Nat),
 v37 = Value.slice a39 k40 k41 ∧
 SVC Try.prog
 (Builtin.append_ (Array.mk [(60 : Nat), (60 : Nat)]) (60 : Nat)
 (Array.mk [Value.slice a28 k29 k30, Value.slice a39 k40 k41]))
 h38 fun (v42 : Value) (h43 : Heap) =>
 ∃ (a44 : Option Addr),
 ∃ (k45 : Nat),
 ∃ (k46 : Nat),
 v42 = Value.slice a44 k45 k46 ∧
 I0 a44 k45 k46 true (IntKind.i64.wrap (n6 + (1 : Int))) h43 ∧
 I1 a44 k45 k46 true (IntKind.i64.wrap (n6 + (1 : Int))) h43 < I1 a2 k3 k4 b5 n6 h7)
 (I0 a28 k29 k30 true (IntKind.i64.wrap (n6 + (1 : Int))) h27 ∧
 I1 a28 k29 k30 true (IntKind.i64.wrap (n6 + (1 : Int))) h27 < I1 a2 k3 k4 b5 n6 h7))
 (∃ (s47 : ByteArray),
 Reads Try.prog (Instr.loadAt (9 : Nat) (Value.pointer (some (Addr.mk (Array.size h7) (0 : Nat) none)))) h14 (Value.string s47) ∧
 ∃ (s48 : ByteArray),
 Reads Try.prog (Instr.loadAt (9 : Nat) (Value.pointer (some (Addr.mk (Array.size h) (0 : Nat) none)))) h14 (Value.string s48) ∧
 br (!s47.toList == s48.toList)
 (∃ (s49 : ByteArray),
 ∃ (a50 : Option Addr),
 ∃ (k51 : Nat),
 ∃ (k52 : Nat),
 Reads Try.prog (Instr.loadAt (65 : Nat) (Value.pointer (some (Addr.mk (Array.size h7) (0 : Nat) none)))) h14
 (Value.agg (Array.mk [Value.string s49, Value.slice a50 k51 k52])) ∧
 SVC Try.prog
 (Instr.buildSlice (60 : Nat) (1 : Nat) (Array.mk [((0 : Nat), Value.agg (Array.mk [Value.string s49, Value.slice a50 k51 k52]))])) h14
 fun (v53 : Value) (h54 : Heap) =>
 ∃ (a55 : Option Addr),
 ∃ (k56 : Nat),
 ∃ (k57 : Nat),
 v53 = Value.slice a55 k56 k57 ∧
 SVC Try.prog
 (Builtin.append_ (Array.mk [(60 : Nat), (60 : Nat)]) (60 : Nat) (Array.mk [Value.slice a2 k3 k4, Value.slice a55 k56 k57])) h54
 fun (v58 : Value) (h59 : Heap) =>
 ∃ (a60 : Option Addr),
 ∃ (k61 : Nat),
 ∃ (k62 : Nat),
 v58 = Value.slice a60 k61 k62 ∧
 I0 a60 k61 k62 b5 (IntKind.i64.wrap (n6 + (1 : Int))) h59 ∧
 I1 a60 k61 k62 b5 (IntKind.i64.wrap (n6 + (1 : Int))) h59 < I1 a2 k3 k4 b5 n6 h7)
 (I0 a2 k3 k4 b5 (IntKind.i64.wrap (n6 + (1 : Int))) h14 ∧ I1 a2 k3 k4 b5 (IntKind.i64.wrap (n6 + (1 : Int))) h14 < I1 a2 k3 k4 b5 n6 h7)))
 (br (!b5)
 (∃ (s63 : ByteArray),
 ∃ (a64 : Option Addr),
 ∃ (k65 : Nat),
 ∃ (k66 : Nat),
 Reads Try.prog (Instr.loadAt (65 : Nat) (Value.pointer (some (Addr.mk (Array.size h) (0 : Nat) none)))) h7 (Value.agg (Array.mk [Value.string s63, Value.slice a64 k65 k66])) ∧
 SVC Try.prog (Instr.buildSlice (60 : Nat) (1 : Nat) (Array.mk [((0 : Nat), Value.agg (Array.mk [Value.string s63, Value.slice a64 k65 k66]))])) h7
 fun (v67 : Value) (h68 : Heap) =>
 ∃ (a69 : Option Addr),
 ∃ (k70 : Nat),
 ∃ (k71 : Nat),
 v67 = Value.slice a69 k70 k71 ∧
 SVC Try.prog (Builtin.append_ (Array.mk [(60 : Nat), (60 : Nat)]) (60 : Nat) (Array.mk [Value.slice a2 k3 k4, Value.slice a69 k70 k71])) h68
 fun (v72 : Value) (h73 : Heap) => ∃ (a74 : Option Addr), ∃ (k75 : Nat), ∃ (k76 : Nat), v72 = Value.slice a74 k75 k76 ∧ R (Value.slice a74 k75 k76) h73)
 (R (Value.slice a2 k3 k4) h7))) := by kernel_rfl

theorem vcRset (s : ByteArray) (B : Option Addr) (m d : Nat) (i : Int) (p : ByteArray) (h : Heap) (R : Value → Heap → Prop) :
    vcF Try.prog Try.f95 29 [] [] [.agg #[.string s, .slice B m d], .int .i64 i, .string p] h R =
(SVC Try.prog (Instr.buildSlice (37 : Nat) (0 : Nat) (Array.mk []))
 ((Array.push h (Obj.cells (Array.mk [Value.string s, Value.slice B m d]) (65 : Nat))).push
 (Obj.cells (Array.mk [Value.string (ByteArray.mk (Array.mk [])), Value.slice none (0 : Nat) (0 : Nat)]) (65 : Nat)))
 fun (v0 : Value) (h1 : Heap) =>
 ∃ (a2 : Option Addr),
 ∃ (k3 : Nat),
 ∃ (k4 : Nat),
 v0 = Value.slice a2 k3 k4 ∧
 ∃ (a5 : Option Addr),
 ∃ (k6 : Nat),
 ∃ (k7 : Nat),
 Reads Try.prog (Instr.loadAt (37 : Nat) (Value.pointer (some ((Addr.mk (Array.size h) (0 : Nat) none).add (1 : Nat))))) h1 (Value.slice a5 k6 k7) ∧
 SVC Try.prog (Builtin.append_ (Array.mk [(37 : Nat), (37 : Nat)]) (37 : Nat) (Array.mk [Value.slice a2 k3 k4, Value.slice a5 k6 k7])) h1 fun (v8 : Value) (h9 : Heap) =>
 ∃ (a10 : Option Addr),
 ∃ (k11 : Nat),
 ∃ (k12 : Nat),
 v8 = Value.slice a10 k11 k12 ∧
 ∃ (I13 : Option Addr → Nat → Nat → Heap → Prop),
 ∃ (I14 : Option Addr → Nat → Nat → Heap → Nat),
 I13 a10 k11 k12 h9 ∧
 ∀ (a15 : Option Addr) (k16 k17 : Nat) (h18 : Heap),
 I13 a15 k16 k17 h18 →
 br (decide ((↑k16 : Int) ≤ i))
 (SVC Try.prog (Instr.makeSlice (22 : Nat) (Value.int IntKind.i64 (512 : Int)) (Value.int IntKind.i64 (512 : Int))) h18 fun (v19 : Value) (h20 : Heap) =>
 ∃ (a21 : Option Addr),
 ∃ (k22 : Nat),
 ∃ (k23 : Nat),
 v19 = Value.slice a21 k22 k23 ∧
 ∃ (s24 : ByteArray),
 Reads Try.prog (convert (22 : Nat) (9 : Nat) (Value.slice a21 k22 k23)) h20 (Value.string s24) ∧
 SVC Try.prog (Instr.buildSlice (37 : Nat) (1 : Nat) (Array.mk [((0 : Nat), Value.string s24)])) h20 fun (v25 : Value) (h26 : Heap) =>
 ∃ (a27 : Option Addr),
 ∃ (k28 : Nat),
 ∃ (k29 : Nat),
 v25 = Value.slice a27 k28 k29 ∧
 SVC Try.prog
 (Builtin.append_ (Array.mk [(37 : Nat), (37 : Nat)]) (37 : Nat) (Array.mk [Value.slice a15 k16 k17, Value.slice a27 k28 k29])) h26
 fun (v30 : Value) (h31 : Heap) =>
 ∃ (a32 : Option Addr),
 ∃ (k33 : Nat), ∃ (k34 : Nat), v30 = Value.slice a32 k33 k34 ∧ I13 a32 k33 k34 h31 ∧ I14 a32 k33 k34 h31 < I14 a15 k16 k17 h18)
 (∃ (p35 : Addr),
 (a15 = some p35 ∧ (0 : Int) ≤ i ∧ i < (↑k16 : Int)) ∧
 SVC Try.prog (Instr.storeAt (9 : Nat) (Value.pointer (some (p35.add (i.toNat * (1 : Nat))))) (Value.string p)) h18 fun (x36 : Unit) (h37 : Heap) =>
 ∃ (s38 : ByteArray),
 Reads Try.prog (Instr.loadAt (9 : Nat) (Value.pointer (some (Addr.mk (Array.size h) (0 : Nat) none)))) h37 (Value.string s38) ∧
 SVC Try.prog
 (Instr.storeAt (65 : Nat)
 (Value.pointer (some (Addr.mk (Array.push h (Obj.cells (Array.mk [Value.string s, Value.slice B m d]) (65 : Nat))).size (0 : Nat) none)))
 (Value.agg (Array.mk [Value.string s38, Value.slice a15 k16 k17])))
 h37 fun (x39 : Unit) (h40 : Heap) =>
 ∃ (s41 : ByteArray),
 ∃ (a42 : Option Addr),
 ∃ (k43 : Nat),
 ∃ (k44 : Nat),
 Reads Try.prog
 (loadVar (65 : Nat) (Addr.mk (Array.push h (Obj.cells (Array.mk [Value.string s, Value.slice B m d]) (65 : Nat))).size (0 : Nat) none))
 h40 (Value.agg (Array.mk [Value.string s41, Value.slice a42 k43 k44])) ∧
 R (Value.agg (Array.mk [Value.string s41, Value.slice a42 k43 k44])) h40)) := by kernel_rfl

theorem vcWithout (A : Option Addr) (n c : Nat) (s : ByteArray) (h : Heap) (R : Value → Heap → Prop) :
    vcF Try.prog Try.f99 24 [] [] [.slice A n c, .string s] h R =
(∃ (I0 : Option Addr → Nat → Nat → Int → Heap → Prop),
 ∃ (I1 : Option Addr → Nat → Nat → Int → Heap → Nat),
 I0 none (0 : Nat) (0 : Nat) (0 : Int) h ∧
 ∀ (a2 : Option Addr) (k3 k4 : Nat) (n5 : Int) (h6 : Heap),
 I0 a2 k3 k4 n5 h6 →
 br (decide (n5 < (↑n : Int)))
 (∃ (p7 : Addr),
 (A = some p7 ∧ (0 : Int) ≤ n5 ∧ n5 < (↑n : Int)) ∧
 ∃ (s8 : ByteArray),
 ∃ (a9 : Option Addr),
 ∃ (k10 : Nat),
 ∃ (k11 : Nat),
 Reads Try.prog (Instr.loadAt (65 : Nat) (Value.pointer (some (p7.add (n5.toNat * (2 : Nat)))))) h6 (Value.agg (Array.mk [Value.string s8, Value.slice a9 k10 k11])) ∧
 SVC Try.prog (Instr.storeAt (65 : Nat) (Value.pointer (some (Addr.mk (Array.size h6) (0 : Nat) none))) (Value.agg (Array.mk [Value.string s8, Value.slice a9 k10 k11])))
 (Array.push h6 (Obj.cells (Array.mk [Value.string (ByteArray.mk (Array.mk [])), Value.slice none (0 : Nat) (0 : Nat)]) (65 : Nat))) fun (x12 : Unit) (h13 : Heap) =>
 ∃ (s14 : ByteArray),
 Reads Try.prog (Instr.loadAt (9 : Nat) (Value.pointer (some (Addr.mk (Array.size h6) (0 : Nat) none)))) h13 (Value.string s14) ∧
 br (!s14.toList == s.toList)
 (∃ (s15 : ByteArray),
 ∃ (a16 : Option Addr),
 ∃ (k17 : Nat),
 ∃ (k18 : Nat),
 Reads Try.prog (Instr.loadAt (65 : Nat) (Value.pointer (some (Addr.mk (Array.size h6) (0 : Nat) none)))) h13
 (Value.agg (Array.mk [Value.string s15, Value.slice a16 k17 k18])) ∧
 SVC Try.prog (Instr.buildSlice (60 : Nat) (1 : Nat) (Array.mk [((0 : Nat), Value.agg (Array.mk [Value.string s15, Value.slice a16 k17 k18]))])) h13
 fun (v19 : Value) (h20 : Heap) =>
 ∃ (a21 : Option Addr),
 ∃ (k22 : Nat),
 ∃ (k23 : Nat),
 v19 = Value.slice a21 k22 k23 ∧
 SVC Try.prog (Builtin.append_ (Array.mk [(60 : Nat), (60 : Nat)]) (60 : Nat) (Array.mk [Value.slice a2 k3 k4, Value.slice a21 k22 k23])) h20
 fun (v24 : Value) (h25 : Heap) =>
 ∃ (a26 : Option Addr),
 ∃ (k27 : Nat),
 ∃ (k28 : Nat),
 v24 = Value.slice a26 k27 k28 ∧
 I0 a26 k27 k28 (IntKind.i64.wrap (n5 + (1 : Int))) h25 ∧ I1 a26 k27 k28 (IntKind.i64.wrap (n5 + (1 : Int))) h25 < I1 a2 k3 k4 n5 h6)
 (I0 a2 k3 k4 (IntKind.i64.wrap (n5 + (1 : Int))) h13 ∧ I1 a2 k3 k4 (IntKind.i64.wrap (n5 + (1 : Int))) h13 < I1 a2 k3 k4 n5 h6))
 (R (Value.slice a2 k3 k4) h6)) := by kernel_rfl

theorem vcRfree (m : Nat) (h : Heap) (R : Value → Heap → Prop) :
    vcF Try.prog Try.f74 26 [] [] [.pointer (some ⟨m, 0, none⟩)] h R =
(∃ (p0 : Addr),
 some (Addr.mk m (0 : Nat) none) = some p0 ∧
 ∃ (n1 : Int),
 Reads Try.prog (Instr.loadAt (3 : Nat) (Value.pointer (some (p0.add (3 : Nat))))) h (Value.int IntKind.i64 n1) ∧
 ∃ (p2 : Addr),
 some (Addr.mk m (0 : Nat) none) = some p2 ∧
 ∃ (a3 : Option Addr),
 ∃ (k4 : Nat),
 ∃ (k5 : Nat),
 Reads Try.prog (Instr.loadAt (60 : Nat) (Value.pointer (some p2))) h (Value.slice a3 k4 k5) ∧
 ∃ (I6 : Int → Int → Heap → Prop),
 ∃ (I7 : Int → Int → Heap → Nat),
 I6 n1 (0 : Int) h ∧
 ∀ (n8 n9 : Int) (h10 : Heap),
 I6 n8 n9 h10 →
 br (decide (n9 < (↑k4 : Int)))
 (∃ (p11 : Addr),
 (a3 = some p11 ∧ (0 : Int) ≤ n9 ∧ n9 < (↑k4 : Int)) ∧
 ∃ (s12 : ByteArray),
 ∃ (a13 : Option Addr),
 ∃ (k14 : Nat),
 ∃ (k15 : Nat),
 Reads Try.prog (Instr.loadAt (65 : Nat) (Value.pointer (some (p11.add (n9.toNat * (2 : Nat)))))) h10
 (Value.agg (Array.mk [Value.string s12, Value.slice a13 k14 k15])) ∧
 SVC Try.prog
 (Instr.storeAt (65 : Nat) (Value.pointer (some (Addr.mk (Array.size h10) (0 : Nat) none)))
 (Value.agg (Array.mk [Value.string s12, Value.slice a13 k14 k15])))
 (Array.push h10 (Obj.cells (Array.mk [Value.string (ByteArray.mk (Array.mk [])), Value.slice none (0 : Nat) (0 : Nat)]) (65 : Nat)))
 fun (x16 : Unit) (h17 : Heap) =>
 ∃ (a18 : Option Addr),
 ∃ (k19 : Nat),
 ∃ (k20 : Nat),
 Reads Try.prog (Instr.loadAt (37 : Nat) (Value.pointer (some ((Addr.mk (Array.size h10) (0 : Nat) none).add (1 : Nat))))) h17
 (Value.slice a18 k19 k20) ∧
 I6 (IntKind.i64.wrap (n8 - (↑k19 : Int))) (IntKind.i64.wrap (n9 + (1 : Int))) h17 ∧
 I7 (IntKind.i64.wrap (n8 - (↑k19 : Int))) (IntKind.i64.wrap (n9 + (1 : Int))) h17 < I7 n8 n9 h10)
 (R (Value.int IntKind.i64 n8) h10)) := by kernel_rfl

theorem vcRnames (m : Nat) (h : Heap) (R : Value → Heap → Prop) :
    vcF Try.prog Try.f73 26 [] [] [.pointer (some ⟨m, 0, none⟩)] h R =
(∃ (p0 : Addr),
 some (Addr.mk m (0 : Nat) none) = some p0 ∧
 ∃ (b1 : Bool),
 Reads Try.prog (Instr.loadAt (4 : Nat) (Value.pointer (some (p0.add (4 : Nat))))) h (Value.bool b1) ∧
 br b1 (R (Value.slice none (0 : Nat) (0 : Nat)) h)
 (∃ (p2 : Addr),
 some (Addr.mk m (0 : Nat) none) = some p2 ∧
 ∃ (a3 : Option Addr),
 ∃ (k4 : Nat),
 ∃ (k5 : Nat),
 Reads Try.prog (Instr.loadAt (60 : Nat) (Value.pointer (some p2))) h (Value.slice a3 k4 k5) ∧
 ∃ (I6 : Option Addr → Nat → Nat → Int → Heap → Prop),
 ∃ (I7 : Option Addr → Nat → Nat → Int → Heap → Nat),
 I6 none (0 : Nat) (0 : Nat) (0 : Int) h ∧
 ∀ (a8 : Option Addr) (k9 k10 : Nat) (n11 : Int) (h12 : Heap),
 I6 a8 k9 k10 n11 h12 →
 br (decide (n11 < (↑k4 : Int)))
 (∃ (p13 : Addr),
 (a3 = some p13 ∧ (0 : Int) ≤ n11 ∧ n11 < (↑k4 : Int)) ∧
 ∃ (s14 : ByteArray),
 ∃ (a15 : Option Addr),
 ∃ (k16 : Nat),
 ∃ (k17 : Nat),
 Reads Try.prog (Instr.loadAt (65 : Nat) (Value.pointer (some (p13.add (n11.toNat * (2 : Nat)))))) h12
 (Value.agg (Array.mk [Value.string s14, Value.slice a15 k16 k17])) ∧
 SVC Try.prog
 (Instr.storeAt (65 : Nat) (Value.pointer (some (Addr.mk (Array.size h12) (0 : Nat) none)))
 (Value.agg (Array.mk [Value.string s14, Value.slice a15 k16 k17])))
 (Array.push h12 (Obj.cells (Array.mk [Value.string (ByteArray.mk (Array.mk [])), Value.slice none (0 : Nat) (0 : Nat)]) (65 : Nat)))
 fun (x18 : Unit) (h19 : Heap) =>
 ∃ (s20 : ByteArray),
 Reads Try.prog (Instr.loadAt (9 : Nat) (Value.pointer (some (Addr.mk (Array.size h12) (0 : Nat) none)))) h19 (Value.string s20) ∧
 SVC Try.prog (Instr.buildSlice (37 : Nat) (1 : Nat) (Array.mk [((0 : Nat), Value.string s20)])) h19 fun (v21 : Value) (h22 : Heap) =>
 ∃ (a23 : Option Addr),
 ∃ (k24 : Nat),
 ∃ (k25 : Nat),
 v21 = Value.slice a23 k24 k25 ∧
 SVC Try.prog
 (Builtin.append_ (Array.mk [(37 : Nat), (37 : Nat)]) (37 : Nat) (Array.mk [Value.slice a8 k9 k10, Value.slice a23 k24 k25])) h22
 fun (v26 : Value) (h27 : Heap) =>
 ∃ (a28 : Option Addr),
 ∃ (k29 : Nat),
 ∃ (k30 : Nat),
 v26 = Value.slice a28 k29 k30 ∧
 I6 a28 k29 k30 (IntKind.i64.wrap (n11 + (1 : Int))) h27 ∧
 I7 a28 k29 k30 (IntKind.i64.wrap (n11 + (1 : Int))) h27 < I7 a8 k9 k10 n11 h12)
 (R (Value.slice a8 k9 k10) h12))) := by kernel_rfl

theorem vcRact (m : Nat) (h : Heap) (R : Value → Heap → Prop) :
    vcF Try.prog Try.f93 27 [] [] [.pointer (some ⟨m, 0, none⟩)] h R =
(∃ (p0 : Addr),
 some (Addr.mk m (0 : Nat) none) = some p0 ∧
 ∃ (n1 : Int),
 Reads Try.prog (Instr.loadAt (3 : Nat) (Value.pointer (some (p0.add (5 : Nat))))) h (Value.int IntKind.i64 n1) ∧
 ∃ (p2 : Addr),
 some (Addr.mk m (0 : Nat) none) = some p2 ∧
 SVC Try.prog (Instr.storeAt (3 : Nat) (Value.pointer (some (p2.add (5 : Nat)))) (Value.int IntKind.i64 (IntKind.i64.wrap (n1 + (1 : Int))))) h fun (x3 : Unit) (h4 : Heap) =>
 ∃ (p5 : Addr),
 some (Addr.mk m (0 : Nat) none) = some p5 ∧
 ∃ (n6 : Int),
 Reads Try.prog (Instr.loadAt (3 : Nat) (Value.pointer (some (p5.add (6 : Nat))))) h4 (Value.int IntKind.i64 n6) ∧
 br (n6 == (0 : Int)) (R (Value.bool false) h4)
 (∃ (p7 : Addr),
 some (Addr.mk m (0 : Nat) none) = some p7 ∧
 ∃ (n8 : Int),
 Reads Try.prog (Instr.loadAt (3 : Nat) (Value.pointer (some (p7.add (6 : Nat))))) h4 (Value.int IntKind.i64 n8) ∧
 ∃ (p9 : Addr),
 some (Addr.mk m (0 : Nat) none) = some p9 ∧
 SVC Try.prog (Instr.storeAt (3 : Nat) (Value.pointer (some (p9.add (6 : Nat)))) (Value.int IntKind.i64 (IntKind.i64.wrap (n8 - (1 : Int))))) h4
 fun (x10 : Unit) (h11 : Heap) =>
 ∃ (p12 : Addr),
 some (Addr.mk m (0 : Nat) none) = some p12 ∧
 ∃ (n13 : Int),
 Reads Try.prog (Instr.loadAt (3 : Nat) (Value.pointer (some (p12.add (6 : Nat))))) h11 (Value.int IntKind.i64 n13) ∧ R (Value.bool (n13 == (0 : Int))) h11)) := by kernel_rfl

theorem vcRarm (m : Nat) (n k : Int) (h : Heap) (R : Value → Heap → Prop) :
    vcF Try.prog Try.f70 19 [] [] [.pointer (some ⟨m, 0, none⟩), .int .i64 n, .int .u64 k] h R =
(∃ (p0 : Addr),
 some (Addr.mk m (0 : Nat) none) = some p0 ∧
 SVC Try.prog (Instr.storeAt (3 : Nat) (Value.pointer (some (p0.add (6 : Nat)))) (Value.int IntKind.i64 (0 : Int))) h fun (x1 : Unit) (h2 : Heap) =>
 br (decide (n > (0 : Int)))
 (∃ (p3 : Addr),
 some (Addr.mk m (0 : Nat) none) = some p3 ∧
 SVC Try.prog (Instr.storeAt (3 : Nat) (Value.pointer (some (p3.add (6 : Nat)))) (Value.int IntKind.i64 n)) h2 fun (x4 : Unit) (h5 : Heap) =>
 ∃ (p6 : Addr),
 some (Addr.mk m (0 : Nat) none) = some p6 ∧
 SVC Try.prog (Instr.storeAt (34 : Nat) (Value.pointer (some (p6.add (7 : Nat)))) (Value.int IntKind.u64 k)) h5 fun (x7 : Unit) (h8 : Heap) => R (Value.tuple (Array.mk [])) h8)
 (∃ (p9 : Addr),
 some (Addr.mk m (0 : Nat) none) = some p9 ∧
 SVC Try.prog (Instr.storeAt (34 : Nat) (Value.pointer (some (p9.add (7 : Nat)))) (Value.int IntKind.u64 k)) h2 fun (x10 : Unit) (h11 : Heap) => R (Value.tuple (Array.mk [])) h11)) := by kernel_rfl

theorem vcRshort (s : ByteArray) (B : Option Addr) (m d : Nat) (n : Int) (h : Heap) (R : Value → Heap → Prop) :
    vcF Try.prog Try.f98 18 [] [] [.agg #[.string s, .slice B m d], .int .i64 n] h R =
(∃ (a0 : Option Addr),
 ∃ (k1 : Nat),
 ∃ (k2 : Nat),
 Reads Try.prog (Instr.loadAt (37 : Nat) (Value.pointer (some ((Addr.mk (Array.size h) (0 : Nat) none).add (1 : Nat)))))
 ((Array.push h (Obj.cells (Array.mk [Value.string s, Value.slice B m d]) (65 : Nat))).push
 (Obj.cells (Array.mk [Value.string (ByteArray.mk (Array.mk [])), Value.slice none (0 : Nat) (0 : Nat)]) (65 : Nat)))
 (Value.slice a0 k1 k2) ∧
 br (decide ((↑k1 : Int) > n))
 (SVC Try.prog (Instr.buildSlice (37 : Nat) (0 : Nat) (Array.mk []))
 ((Array.push h (Obj.cells (Array.mk [Value.string s, Value.slice B m d]) (65 : Nat))).push
 (Obj.cells (Array.mk [Value.string (ByteArray.mk (Array.mk [])), Value.slice none (0 : Nat) (0 : Nat)]) (65 : Nat)))
 fun (v3 : Value) (h4 : Heap) =>
 ∃ (a5 : Option Addr),
 ∃ (k6 : Nat),
 ∃ (k7 : Nat),
 v3 = Value.slice a5 k6 k7 ∧
 ∃ (a8 : Option Addr),
 ∃ (k9 : Nat),
 ∃ (k10 : Nat),
 Reads Try.prog (Instr.loadAt (37 : Nat) (Value.pointer (some ((Addr.mk (Array.size h) (0 : Nat) none).add (1 : Nat))))) h4 (Value.slice a8 k9 k10) ∧
 ((0 : Int) ≤ n ∧ n ≤ (↑k10 : Int) ∧ (↑k10 : Int) ≤ (↑k10 : Int)) ∧
 SVC Try.prog (Builtin.append_ (Array.mk [(37 : Nat), (37 : Nat)]) (37 : Nat) (Array.mk [Value.slice a5 k6 k7, Value.slice a8 n.toNat k10])) h4
 fun (v11 : Value) (h12 : Heap) =>
 ∃ (a13 : Option Addr),
 ∃ (k14 : Nat),
 ∃ (k15 : Nat),
 v11 = Value.slice a13 k14 k15 ∧
 SVC Try.prog (Instr.storeAt (37 : Nat) (Value.pointer (some ((Addr.mk (Array.size h) (0 : Nat) none).add (1 : Nat)))) (Value.slice a13 k14 k15)) h12
 fun (x16 : Unit) (h17 : Heap) =>
 ∃ (s18 : ByteArray),
 ∃ (a19 : Option Addr),
 ∃ (k20 : Nat),
 ∃ (k21 : Nat),
 Reads Try.prog (Instr.loadAt (65 : Nat) (Value.pointer (some (Addr.mk (Array.size h) (0 : Nat) none)))) h17
 (Value.agg (Array.mk [Value.string s18, Value.slice a19 k20 k21])) ∧
 SVC Try.prog
 (Instr.storeAt (65 : Nat)
 (Value.pointer (some (Addr.mk (Array.push h (Obj.cells (Array.mk [Value.string s, Value.slice B m d]) (65 : Nat))).size (0 : Nat) none)))
 (Value.agg (Array.mk [Value.string s18, Value.slice a19 k20 k21])))
 h17 fun (x22 : Unit) (h23 : Heap) =>
 ∃ (s24 : ByteArray),
 ∃ (a25 : Option Addr),
 ∃ (k26 : Nat),
 ∃ (k27 : Nat),
 Reads Try.prog
 (loadVar (65 : Nat)
 (Addr.mk (Array.push h (Obj.cells (Array.mk [Value.string s, Value.slice B m d]) (65 : Nat))).size (0 : Nat) none))
 h23 (Value.agg (Array.mk [Value.string s24, Value.slice a25 k26 k27])) ∧
 R (Value.agg (Array.mk [Value.string s24, Value.slice a25 k26 k27])) h23)
 (∃ (s28 : ByteArray),
 ∃ (a29 : Option Addr),
 ∃ (k30 : Nat),
 ∃ (k31 : Nat),
 Reads Try.prog (Instr.loadAt (65 : Nat) (Value.pointer (some (Addr.mk (Array.size h) (0 : Nat) none))))
 ((Array.push h (Obj.cells (Array.mk [Value.string s, Value.slice B m d]) (65 : Nat))).push
 (Obj.cells (Array.mk [Value.string (ByteArray.mk (Array.mk [])), Value.slice none (0 : Nat) (0 : Nat)]) (65 : Nat)))
 (Value.agg (Array.mk [Value.string s28, Value.slice a29 k30 k31])) ∧
 SVC Try.prog
 (Instr.storeAt (65 : Nat) (Value.pointer (some (Addr.mk (Array.push h (Obj.cells (Array.mk [Value.string s, Value.slice B m d]) (65 : Nat))).size (0 : Nat) none)))
 (Value.agg (Array.mk [Value.string s28, Value.slice a29 k30 k31])))
 ((Array.push h (Obj.cells (Array.mk [Value.string s, Value.slice B m d]) (65 : Nat))).push
 (Obj.cells (Array.mk [Value.string (ByteArray.mk (Array.mk [])), Value.slice none (0 : Nat) (0 : Nat)]) (65 : Nat)))
 fun (x32 : Unit) (h33 : Heap) =>
 ∃ (s34 : ByteArray),
 ∃ (a35 : Option Addr),
 ∃ (k36 : Nat),
 ∃ (k37 : Nat),
 Reads Try.prog (loadVar (65 : Nat) (Addr.mk (Array.push h (Obj.cells (Array.mk [Value.string s, Value.slice B m d]) (65 : Nat))).size (0 : Nat) none)) h33
 (Value.agg (Array.mk [Value.string s34, Value.slice a35 k36 k37])) ∧
 R (Value.agg (Array.mk [Value.string s34, Value.slice a35 k36 k37])) h33)) := by kernel_rfl

theorem vcRdrop (m : Nat) (s : ByteArray) (k : Int) (h : Heap) (R : Value → Heap → Prop) :
    vcF Try.prog Try.f97 37 [] [] [.pointer (some ⟨m, 0, none⟩), .string s, .int .i64 k] h R =
(∃ (p0 : Addr),
 some (Addr.mk m (0 : Nat) none) = some p0 ∧
 ∃ (a1 : Option Addr),
 ∃ (k2 : Nat),
 ∃ (k3 : Nat),
 Reads Try.prog (Instr.loadAt (61 : Nat) (Value.pointer (some (p0.add (2 : Nat))))) h (Value.slice a1 k2 k3) ∧
 ∃ (I4 : Option Addr → Nat → Nat → Int → Heap → Prop),
 ∃ (I5 : Option Addr → Nat → Nat → Int → Heap → Nat),
 I4 none (0 : Nat) (0 : Nat) (0 : Int) h ∧
 ∀ (a6 : Option Addr) (k7 k8 : Nat) (n9 : Int) (h10 : Heap),
 I4 a6 k7 k8 n9 h10 →
 br (decide (n9 < (↑k2 : Int)))
 (∃ (p11 : Addr),
 (a1 = some p11 ∧ (0 : Int) ≤ n9 ∧ n9 < (↑k2 : Int)) ∧
 ∃ (s12 : ByteArray),
 ∃ (n13 : Int),
 ∃ (s14 : ByteArray),
 Reads Try.prog (Instr.loadAt (141 : Nat) (Value.pointer (some (p11.add (n9.toNat * (3 : Nat)))))) h10
 (Value.agg (Array.mk [Value.string s12, Value.int IntKind.i64 n13, Value.string s14])) ∧
 SVC Try.prog
 (Instr.storeAt (141 : Nat) (Value.pointer (some (Addr.mk (Array.size h10) (0 : Nat) none)))
 (Value.agg (Array.mk [Value.string s12, Value.int IntKind.i64 n13, Value.string s14])))
 (Array.push h10
 (Obj.cells (Array.mk [Value.string (ByteArray.mk (Array.mk [])), Value.int IntKind.i64 (0 : Int), Value.string (ByteArray.mk (Array.mk []))]) (141 : Nat)))
 fun (x15 : Unit) (h16 : Heap) =>
 ∃ (s17 : ByteArray),
 Reads Try.prog (Instr.loadAt (9 : Nat) (Value.pointer (some (Addr.mk (Array.size h10) (0 : Nat) none)))) h16 (Value.string s17) ∧
 ∃ (n18 : Int),
 ((!!s17.toList == s.toList) = true →
 Reads Try.prog (Instr.loadAt (3 : Nat) (Value.pointer (some ((Addr.mk (Array.size h10) (0 : Nat) none).add (1 : Nat))))) h16
 (Value.int IntKind.i64 n18)) ∧
 br (!s17.toList == s.toList || decide (n18 < k))
 (∃ (s19 : ByteArray),
 ∃ (n20 : Int),
 ∃ (s21 : ByteArray),
 Reads Try.prog (Instr.loadAt (141 : Nat) (Value.pointer (some (Addr.mk (Array.size h10) (0 : Nat) none)))) h16
 (Value.agg (Array.mk [Value.string s19, Value.int IntKind.i64 n20, Value.string s21])) ∧
 SVC Try.prog
 (Instr.buildSlice (61 : Nat) (1 : Nat)
 (Array.mk [((0 : Nat), Value.agg (Array.mk [Value.string s19, Value.int IntKind.i64 n20, Value.string s21]))]))
 h16 fun (v22 : Value) (h23 : Heap) =>
 ∃ (a24 : Option Addr),
 ∃ (k25 : Nat),
 ∃ (k26 : Nat),
 v22 = Value.slice a24 k25 k26 ∧
 SVC Try.prog
 (Builtin.append_ (Array.mk [(61 : Nat), (61 : Nat)]) (61 : Nat) (Array.mk [Value.slice a6 k7 k8, Value.slice a24 k25 k26])) h23
 fun (v27 : Value) (h28 : Heap) =>
 ∃ (a29 : Option Addr),
 ∃ (k30 : Nat),
 ∃ (k31 : Nat),
 v27 = Value.slice a29 k30 k31 ∧
 I4 a29 k30 k31 (IntKind.i64.wrap (n9 + (1 : Int))) h28 ∧
 I5 a29 k30 k31 (IntKind.i64.wrap (n9 + (1 : Int))) h28 < I5 a6 k7 k8 n9 h10)
 (I4 a6 k7 k8 (IntKind.i64.wrap (n9 + (1 : Int))) h16 ∧ I5 a6 k7 k8 (IntKind.i64.wrap (n9 + (1 : Int))) h16 < I5 a6 k7 k8 n9 h10))
 (∃ (p32 : Addr),
 some (Addr.mk m (0 : Nat) none) = some p32 ∧
 SVC Try.prog (Instr.storeAt (61 : Nat) (Value.pointer (some (p32.add (2 : Nat)))) (Value.slice a6 k7 k8)) h10 fun (x33 : Unit) (h34 : Heap) =>
 R (Value.tuple (Array.mk [])) h34)) := by kernel_rfl

theorem vcRnew (n : Int) (h : Heap) (R : Value → Heap → Prop) :
    vcF Try.prog Try.f28 10 [] [] [.int .i64 n] h R =
(br (decide (n < (0 : Int)))
 (R (Value.pointer (some (Addr.mk (Array.size h) (0 : Nat) none)))
 (Array.push h
 (Obj.cells
 (Array.mk
 [Value.slice none (0 : Nat) (0 : Nat), Value.slice none (0 : Nat) (0 : Nat), Value.slice none (0 : Nat) (0 : Nat), Value.int IntKind.i64 (0 : Int), Value.bool false,
 Value.int IntKind.i64 (0 : Int), Value.int IntKind.i64 (0 : Int), Value.int IntKind.u64 (0 : Int)])
 (63 : Nat))))
 (br (decide (n > (4096 : Int)))
 (R (Value.pointer (some (Addr.mk (Array.size h) (0 : Nat) none)))
 (Array.push h
 (Obj.cells
 (Array.mk
 [Value.slice none (0 : Nat) (0 : Nat), Value.slice none (0 : Nat) (0 : Nat), Value.slice none (0 : Nat) (0 : Nat), Value.int IntKind.i64 (4096 : Int), Value.bool false,
 Value.int IntKind.i64 (0 : Int), Value.int IntKind.i64 (0 : Int), Value.int IntKind.u64 (0 : Int)])
 (63 : Nat))))
 (R (Value.pointer (some (Addr.mk (Array.size h) (0 : Nat) none)))
 (Array.push h
 (Obj.cells
 (Array.mk
 [Value.slice none (0 : Nat) (0 : Nat), Value.slice none (0 : Nat) (0 : Nat), Value.slice none (0 : Nat) (0 : Nat), Value.int IntKind.i64 n, Value.bool false,
 Value.int IntKind.i64 (0 : Int), Value.int IntKind.i64 (0 : Int), Value.int IntKind.u64 (0 : Int)])
 (63 : Nat)))))) := by kernel_rfl

theorem vcRread (m : Nat) (s : ByteArray) (i : Int) (h : Heap) (R : Value → Heap → Prop) :
    vcF Try.prog Try.f64 37 [] [] [.pointer (some ⟨m, 0, none⟩), .string s, .int .i64 i] h R =
(∃ (p0 : Addr),
 some (Addr.mk m (0 : Nat) none) = some p0 ∧
 ∃ (b1 : Bool),
 Reads Try.prog (Instr.loadAt (4 : Nat) (Value.pointer (some (p0.add (4 : Nat))))) h (Value.bool b1) ∧
 br b1 (R (Value.tuple (Array.mk [Value.string (ByteArray.mk (Array.mk [])), Value.int IntKind.i64 (8 : Int)])) h)
 (∃ (p2 : Addr),
 some (Addr.mk m (0 : Nat) none) = some p2 ∧
 ∃ (a3 : Option Addr),
 ∃ (k4 : Nat),
 ∃ (k5 : Nat),
 Reads Try.prog (Instr.loadAt (60 : Nat) (Value.pointer (some p2))) h (Value.slice a3 k4 k5) ∧
 HC Try.prog (92 : Nat) (Array.mk [Value.slice a3 k4 k5, Value.string s]) h fun (v6 : Value) (h7 : Heap) =>
 ∃ (s8 : ByteArray),
 ∃ (a9 : Option Addr),
 ∃ (k10 : Nat),
 ∃ (k11 : Nat),
 ∃ (b12 : Bool),
 v6 = Value.tuple (Array.mk [Value.agg (Array.mk [Value.string s8, Value.slice a9 k10 k11]), Value.bool b12]) ∧
 SVC Try.prog
 (Instr.storeAt (65 : Nat) (Value.pointer (some (Addr.mk (Array.size h7) (0 : Nat) none))) (Value.agg (Array.mk [Value.string s8, Value.slice a9 k10 k11])))
 (Array.push h7 (Obj.cells (Array.mk [Value.string (ByteArray.mk (Array.mk [])), Value.slice none (0 : Nat) (0 : Nat)]) (65 : Nat)))
 fun (x13 : Unit) (h14 : Heap) =>
 ∃ (a15 : Option Addr),
 ∃ (k16 : Nat),
 ∃ (k17 : Nat),
 ((!decide (i < (0 : Int))) = true →
 Reads Try.prog (Instr.loadAt (37 : Nat) (Value.pointer (some ((Addr.mk (Array.size h7) (0 : Nat) none).add (1 : Nat))))) h14
 (Value.slice a15 k16 k17)) ∧
 br (decide (i < (0 : Int)) || decide (i ≥ (↑k16 : Int)))
 (R (Value.tuple (Array.mk [Value.string (ByteArray.mk (Array.mk [])), Value.int IntKind.i64 (5 : Int)])) h14)
 (∃ (a18 : Option Addr),
 ∃ (k19 : Nat),
 ∃ (k20 : Nat),
 Reads Try.prog (Instr.loadAt (37 : Nat) (Value.pointer (some ((Addr.mk (Array.size h7) (0 : Nat) none).add (1 : Nat))))) h14
 (Value.slice a18 k19 k20) ∧
 ∃ (p21 : Addr),
 (a18 = some p21 ∧ (0 : Int) ≤ i ∧ i < (↑k19 : Int)) ∧
 ∃ (s22 : ByteArray),
 Reads Try.prog (Instr.loadAt (9 : Nat) (Value.pointer (some (p21.add (i.toNat * (1 : Nat)))))) h14 (Value.string s22) ∧
 R (Value.tuple (Array.mk [Value.string s22, Value.int IntKind.i64 (0 : Int)])) h14))) := by kernel_rfl
end Go.Proofs.Ytembbemljejjbaa
set_option linter.unusedVariables false
set_option maxRecDepth 100000
namespace Go.Proofs.Ytembbemljejjbaa
open Go Go.Vc Go.Proofs

theorem vcRlose (m : Nat) (k : Int) (h : Heap) (R : Value → Heap → Prop) :
    vcF Try.prog Try.f69 107 [] [] [.pointer (some ⟨m, 0, none⟩), .int .u64 k] h R =
(∃ (p0 : Addr),
 some (Addr.mk m (0 : Nat) none) = some p0 ∧
 ∃ (b1 : Bool),
 Reads Try.prog (Instr.loadAt (4 : Nat) (Value.pointer (some (p0.add (4 : Nat))))) h (Value.bool b1) ∧
 br b1 (R (Value.tuple (Array.mk [])) h)
 (∃ (p2 : Addr),
 some (Addr.mk m (0 : Nat) none) = some p2 ∧
 ∃ (a3 : Option Addr),
 ∃ (k4 : Nat),
 ∃ (k5 : Nat),
 Reads Try.prog (Instr.loadAt (61 : Nat) (Value.pointer (some (p2.add (2 : Nat))))) h (Value.slice a3 k4 k5) ∧
 ∃ (I6 : Int → Heap → Prop),
 ∃ (I7 : Int → Heap → Nat),
 I6 (0 : Int) h ∧
 ∀ (n8 : Int) (h9 : Heap),
 I6 n8 h9 →
 br (decide (n8 < (↑k4 : Int)))
 (∃ (p10 : Addr),
 (a3 = some p10 ∧ (0 : Int) ≤ n8 ∧ n8 < (↑k4 : Int)) ∧
 ∃ (s11 : ByteArray),
 ∃ (n12 : Int),
 ∃ (s13 : ByteArray),
 Reads Try.prog (Instr.loadAt (141 : Nat) (Value.pointer (some (p10.add (n8.toNat * (3 : Nat)))))) h9
 (Value.agg (Array.mk [Value.string s11, Value.int IntKind.i64 n12, Value.string s13])) ∧
 SVC Try.prog
 (Instr.storeAt (141 : Nat) (Value.pointer (some (Addr.mk (Array.size h9) (0 : Nat) none)))
 (Value.agg (Array.mk [Value.string s11, Value.int IntKind.i64 n12, Value.string s13])))
 (Array.push h9
 (Obj.cells (Array.mk [Value.string (ByteArray.mk (Array.mk [])), Value.int IntKind.i64 (0 : Int), Value.string (ByteArray.mk (Array.mk []))])
 (141 : Nat)))
 fun (x14 : Unit) (h15 : Heap) =>
 (64 : Int) ≠ (0 : Int) ∧
 (0 : Int) ≤ IntKind.u64.wrap (n8.tmod (64 : Int)) ∧
 (2 : Int) ≠ (0 : Int) ∧
 br ((k.fdiv ((2 : Int) ^ min (IntKind.u64.wrap (n8.tmod (64 : Int))).toNat (64 : Nat))).tmod (2 : Int) == (1 : Int))
 (∃ (I16 : Heap → Prop),
 I16 h15 ∧
 ∃ (p17 : Addr),
 some (Addr.mk m (0 : Nat) none) = some p17 ∧
 ∃ (a18 : Option Addr),
 ∃ (k19 : Nat),
 ∃ (k20 : Nat),
 (∀ (h21 : Heap),
 I16 h21 → Reads Try.prog (Instr.loadAt (60 : Nat) (Value.pointer (some (p17.add (1 : Nat))))) h21 (Value.slice a18 k19 k20)) ∧
 ∃ (s22 : ByteArray),
 (∀ (h23 : Heap),
 I16 h23 →
 Reads Try.prog (Instr.loadAt (9 : Nat) (Value.pointer (some (Addr.mk (Array.size h9) (0 : Nat) none)))) h23
 (Value.string s22)) ∧
 (HC Try.prog (92 : Nat) (Array.mk [Value.slice a18 k19 k20, Value.string s22]) h15 fun (v24 : Value) (h25 : Heap) =>
 ∃ (s26 : ByteArray),
 ∃ (a27 : Option Addr),
 ∃ (k28 : Nat),
 ∃ (k29 : Nat),
 ∃ (b30 : Bool),
 v24 =
 Value.tuple
 (Array.mk [Value.agg (Array.mk [Value.string s26, Value.slice a27 k28 k29]), Value.bool b30]) ∧
 I16
 (Array.push h25
 (Obj.cells
 (Array.mk [Value.string (ByteArray.mk (Array.mk [])), Value.slice none (0 : Nat) (0 : Nat)])
 (65 : Nat))) ∧
 SVC Try.prog
 (Instr.storeAt (65 : Nat) (Value.pointer (some (Addr.mk (Array.size h25) (0 : Nat) none)))
 (Value.agg (Array.mk [Value.string s26, Value.slice a27 k28 k29])))
 (Array.push h25
 (Obj.cells
 (Array.mk [Value.string (ByteArray.mk (Array.mk [])), Value.slice none (0 : Nat) (0 : Nat)])
 (65 : Nat)))
 fun (x31 : Unit) (h32 : Heap) =>
 ∃ (I33 : Heap → Prop),
 I33 h32 ∧
 ∃ (p34 : Addr),
 some (Addr.mk m (0 : Nat) none) = some p34 ∧
 ∃ (a35 : Option Addr),
 ∃ (k36 : Nat),
 ∃ (k37 : Nat),
 (∀ (h38 : Heap),
 I33 h38 →
 Reads Try.prog (Instr.loadAt (60 : Nat) (Value.pointer (some (p34.add (1 : Nat)))))
 h38 (Value.slice a35 k36 k37)) ∧
 ∃ (s39 : ByteArray),
 ∃ (a40 : Option Addr),
 ∃ (k41 : Nat),
 ∃ (k42 : Nat),
 Reads Try.prog
 (Instr.loadAt (65 : Nat)
 (Value.pointer (some (Addr.mk (Array.size h25) (0 : Nat) none))))
 h32 (Value.agg (Array.mk [Value.string s39, Value.slice a40 k41 k42])) ∧
 ∃ (n43 : Int),
 Reads Try.prog
 (Instr.loadAt (3 : Nat)
 (Value.pointer
 (some ((Addr.mk (Array.size h9) (0 : Nat) none).add (1 : Nat)))))
 h32 (Value.int IntKind.i64 n43) ∧
 ∃ (s44 : ByteArray),
 Reads Try.prog
 (Instr.loadAt (9 : Nat)
 (Value.pointer
 (some
 ((Addr.mk (Array.size h9) (0 : Nat) none).add (2 : Nat)))))
 h32 (Value.string s44) ∧
 HC Try.prog (95 : Nat)
 (Array.mk
 [Value.agg (Array.mk [Value.string s39, Value.slice a40 k41 k42]),
 Value.int IntKind.i64 n43, Value.string s44])
 h32 fun (v45 : Value) (h46 : Heap) =>
 ∃ (s47 : ByteArray),
 ∃ (a48 : Option Addr),
 ∃ (k49 : Nat),
 ∃ (k50 : Nat),
 v45 =
 Value.agg
 (Array.mk
 [Value.string s47, Value.slice a48 k49 k50]) ∧
 I33 h46 ∧
 HC Try.prog (94 : Nat)
 (Array.mk
 [Value.slice a35 k36 k37,
 Value.agg
 (Array.mk
 [Value.string s47, Value.slice a48 k49 k50])])
 h46 fun (v51 : Value) (h52 : Heap) =>
 ∃ (a53 : Option Addr),
 ∃ (k54 : Nat),
 ∃ (k55 : Nat),
 v51 = Value.slice a53 k54 k55 ∧
 ∃ (p56 : Addr),
 some (Addr.mk m (0 : Nat) none) = some p56 ∧
 SVC Try.prog
 (Instr.storeAt (60 : Nat)
 (Value.pointer
 (some (p56.add (1 : Nat))))
 (Value.slice a53 k54 k55))
 h52 fun (x57 : Unit) (h58 : Heap) =>
 I6 (IntKind.i64.wrap (n8 + (1 : Int)))
 h58 ∧
 I7 (IntKind.i64.wrap (n8 + (1 : Int)))
 h58 <
 I7 n8 h9) ∧
 I16
 (Array.push h15
 (Obj.cells (Array.mk [Value.string (ByteArray.mk (Array.mk [])), Value.slice none (0 : Nat) (0 : Nat)])
 (65 : Nat))) ∧
 HC Try.prog (92 : Nat) (Array.mk [Value.slice a18 k19 k20, Value.string s22])
 (Array.push h15
 (Obj.cells (Array.mk [Value.string (ByteArray.mk (Array.mk [])), Value.slice none (0 : Nat) (0 : Nat)]) (65 : Nat)))
 fun (v59 : Value) (h60 : Heap) =>
 ∃ (s61 : ByteArray),
 ∃ (a62 : Option Addr),
 ∃ (k63 : Nat),
 ∃ (k64 : Nat),
 ∃ (b65 : Bool),
 v59 =
 Value.tuple
 (Array.mk [Value.agg (Array.mk [Value.string s61, Value.slice a62 k63 k64]), Value.bool b65]) ∧
 SVC Try.prog
 (Instr.storeAt (65 : Nat) (Value.pointer (some (Addr.mk (Array.size h15) (0 : Nat) none)))
 (Value.agg (Array.mk [Value.string s61, Value.slice a62 k63 k64])))
 h60 fun (x66 : Unit) (h67 : Heap) =>
 ∃ (I68 : Heap → Prop),
 I68 h67 ∧
 ∃ (p69 : Addr),
 some (Addr.mk m (0 : Nat) none) = some p69 ∧
 ∃ (a70 : Option Addr),
 ∃ (k71 : Nat),
 ∃ (k72 : Nat),
 (∀ (h73 : Heap),
 I68 h73 →
 Reads Try.prog (Instr.loadAt (60 : Nat) (Value.pointer (some (p69.add (1 : Nat)))))
 h73 (Value.slice a70 k71 k72)) ∧
 ∃ (s74 : ByteArray),
 ∃ (a75 : Option Addr),
 ∃ (k76 : Nat),
 ∃ (k77 : Nat),
 Reads Try.prog
 (Instr.loadAt (65 : Nat)
 (Value.pointer (some (Addr.mk (Array.size h15) (0 : Nat) none))))
 h67 (Value.agg (Array.mk [Value.string s74, Value.slice a75 k76 k77])) ∧
 ∃ (n78 : Int),
 Reads Try.prog
 (Instr.loadAt (3 : Nat)
 (Value.pointer
 (some ((Addr.mk (Array.size h9) (0 : Nat) none).add (1 : Nat)))))
 h67 (Value.int IntKind.i64 n78) ∧
 ∃ (s79 : ByteArray),
 Reads Try.prog
 (Instr.loadAt (9 : Nat)
 (Value.pointer
 (some
 ((Addr.mk (Array.size h9) (0 : Nat) none).add (2 : Nat)))))
 h67 (Value.string s79) ∧
 HC Try.prog (95 : Nat)
 (Array.mk
 [Value.agg (Array.mk [Value.string s74, Value.slice a75 k76 k77]),
 Value.int IntKind.i64 n78, Value.string s79])
 h67 fun (v80 : Value) (h81 : Heap) =>
 ∃ (s82 : ByteArray),
 ∃ (a83 : Option Addr),
 ∃ (k84 : Nat),
 ∃ (k85 : Nat),
 v80 =
 Value.agg
 (Array.mk
 [Value.string s82, Value.slice a83 k84 k85]) ∧
 I68 h81 ∧
 HC Try.prog (94 : Nat)
 (Array.mk
 [Value.slice a70 k71 k72,
 Value.agg
 (Array.mk
 [Value.string s82, Value.slice a83 k84 k85])])
 h81 fun (v86 : Value) (h87 : Heap) =>
 ∃ (a88 : Option Addr),
 ∃ (k89 : Nat),
 ∃ (k90 : Nat),
 v86 = Value.slice a88 k89 k90 ∧
 ∃ (p91 : Addr),
 some (Addr.mk m (0 : Nat) none) = some p91 ∧
 SVC Try.prog
 (Instr.storeAt (60 : Nat)
 (Value.pointer
 (some (p91.add (1 : Nat))))
 (Value.slice a88 k89 k90))
 h87 fun (x92 : Unit) (h93 : Heap) =>
 I6 (IntKind.i64.wrap (n8 + (1 : Int)))
 h93 ∧
 I7 (IntKind.i64.wrap (n8 + (1 : Int)))
 h93 <
 I7 n8 h9)
 (I6 (IntKind.i64.wrap (n8 + (1 : Int))) h15 ∧ I7 (IntKind.i64.wrap (n8 + (1 : Int))) h15 < I7 n8 h9))
 (∃ (p94 : Addr),
 some (Addr.mk m (0 : Nat) none) = some p94 ∧
 ∃ (a95 : Option Addr),
 ∃ (k96 : Nat),
 ∃ (k97 : Nat),
 Reads Try.prog (Instr.loadAt (60 : Nat) (Value.pointer (some p94))) h9 (Value.slice a95 k96 k97) ∧
 ∃ (I98 : Int → Heap → Prop),
 ∃ (I99 : Int → Heap → Nat),
 I98 (0 : Int) h9 ∧
 ∀ (n100 : Int) (h101 : Heap),
 I98 n100 h101 →
 br (decide (n100 < (↑k96 : Int)))
 (∃ (p102 : Addr),
 (a95 = some p102 ∧ (0 : Int) ≤ n100 ∧ n100 < (↑k96 : Int)) ∧
 ∃ (s103 : ByteArray),
 ∃ (a104 : Option Addr),
 ∃ (k105 : Nat),
 ∃ (k106 : Nat),
 Reads Try.prog (Instr.loadAt (65 : Nat) (Value.pointer (some (p102.add (n100.toNat * (2 : Nat)))))) h101
 (Value.agg (Array.mk [Value.string s103, Value.slice a104 k105 k106])) ∧
 SVC Try.prog
 (Instr.storeAt (65 : Nat) (Value.pointer (some (Addr.mk (Array.size h101) (0 : Nat) none)))
 (Value.agg (Array.mk [Value.string s103, Value.slice a104 k105 k106])))
 (Array.push h101
 (Obj.cells (Array.mk [Value.string (ByteArray.mk (Array.mk [])), Value.slice none (0 : Nat) (0 : Nat)]) (65 : Nat)))
 fun (x107 : Unit) (h108 : Heap) =>
 ∃ (I109 : Heap → Prop),
 I109 h108 ∧
 ∃ (p110 : Addr),
 some (Addr.mk m (0 : Nat) none) = some p110 ∧
 ∃ (a111 : Option Addr),
 ∃ (k112 : Nat),
 ∃ (k113 : Nat),
 (∀ (h114 : Heap),
 I109 h114 →
 Reads Try.prog (Instr.loadAt (60 : Nat) (Value.pointer (some (p110.add (1 : Nat))))) h114
 (Value.slice a111 k112 k113)) ∧
 ∃ (s115 : ByteArray),
 (∀ (h116 : Heap),
 I109 h116 →
 Reads Try.prog
 (Instr.loadAt (9 : Nat) (Value.pointer (some (Addr.mk (Array.size h101) (0 : Nat) none)))) h116
 (Value.string s115)) ∧
 (HC Try.prog (92 : Nat) (Array.mk [Value.slice a111 k112 k113, Value.string s115]) h108
 fun (v117 : Value) (h118 : Heap) =>
 ∃ (s119 : ByteArray),
 ∃ (a120 : Option Addr),
 ∃ (k121 : Nat),
 ∃ (k122 : Nat),
 ∃ (b123 : Bool),
 v117 =
 Value.tuple
 (Array.mk
 [Value.agg (Array.mk [Value.string s119, Value.slice a120 k121 k122]),
 Value.bool b123]) ∧
 I109
 (Array.push h118
 (Obj.cells
 (Array.mk
 [Value.string (ByteArray.mk (Array.mk [])),
 Value.slice none (0 : Nat) (0 : Nat)])
 (65 : Nat))) ∧
 SVC Try.prog
 (Instr.storeAt (65 : Nat)
 (Value.pointer (some (Addr.mk (Array.size h118) (0 : Nat) none)))
 (Value.agg (Array.mk [Value.string s119, Value.slice a120 k121 k122])))
 (Array.push h118
 (Obj.cells
 (Array.mk
 [Value.string (ByteArray.mk (Array.mk [])),
 Value.slice none (0 : Nat) (0 : Nat)])
 (65 : Nat)))
 fun (x124 : Unit) (h125 : Heap) =>
 br (!b123)
 (∃ (p126 : Addr),
 some (Addr.mk m (0 : Nat) none) = some p126 ∧
 ∃ (a127 : Option Addr),
 ∃ (k128 : Nat),
 ∃ (k129 : Nat),
 Reads Try.prog
 (Instr.loadAt (60 : Nat) (Value.pointer (some (p126.add (1 : Nat)))))
 h125 (Value.slice a127 k128 k129) ∧
 ∃ (s130 : ByteArray),
 Reads Try.prog
 (Instr.loadAt (9 : Nat)
 (Value.pointer
 (some (Addr.mk (Array.size h101) (0 : Nat) none))))
 h125 (Value.string s130) ∧
 HC Try.prog (94 : Nat)
 (Array.mk
 [Value.slice a127 k128 k129,
 Value.agg
 (Array.mk
 [Value.string s130,
 Value.slice none (0 : Nat) (0 : Nat)])])
 h125 fun (v131 : Value) (h132 : Heap) =>
 ∃ (a133 : Option Addr),
 ∃ (k134 : Nat),
 ∃ (k135 : Nat),
 v131 = Value.slice a133 k134 k135 ∧
 ∃ (p136 : Addr),
 some (Addr.mk m (0 : Nat) none) = some p136 ∧
 SVC Try.prog
 (Instr.storeAt (60 : Nat)
 (Value.pointer (some (p136.add (1 : Nat))))
 (Value.slice a133 k134 k135))
 h132 fun (x137 : Unit) (h138 : Heap) =>
 I98 (IntKind.i64.wrap (n100 + (1 : Int))) h138 ∧
 I99 (IntKind.i64.wrap (n100 + (1 : Int))) h138 <
 I99 n100 h101)
 (I98 (IntKind.i64.wrap (n100 + (1 : Int))) h125 ∧
 I99 (IntKind.i64.wrap (n100 + (1 : Int))) h125 < I99 n100 h101)) ∧
 I109
 (Array.push h108
 (Obj.cells
 (Array.mk [Value.string (ByteArray.mk (Array.mk [])), Value.slice none (0 : Nat) (0 : Nat)])
 (65 : Nat))) ∧
 HC Try.prog (92 : Nat) (Array.mk [Value.slice a111 k112 k113, Value.string s115])
 (Array.push h108
 (Obj.cells
 (Array.mk [Value.string (ByteArray.mk (Array.mk [])), Value.slice none (0 : Nat) (0 : Nat)])
 (65 : Nat)))
 fun (v139 : Value) (h140 : Heap) =>
 ∃ (s141 : ByteArray),
 ∃ (a142 : Option Addr),
 ∃ (k143 : Nat),
 ∃ (k144 : Nat),
 ∃ (b145 : Bool),
 v139 =
 Value.tuple
 (Array.mk
 [Value.agg (Array.mk [Value.string s141, Value.slice a142 k143 k144]),
 Value.bool b145]) ∧
 SVC Try.prog
 (Instr.storeAt (65 : Nat)
 (Value.pointer (some (Addr.mk (Array.size h108) (0 : Nat) none)))
 (Value.agg (Array.mk [Value.string s141, Value.slice a142 k143 k144])))
 h140 fun (x146 : Unit) (h147 : Heap) =>
 br (!b145)
 (∃ (p148 : Addr),
 some (Addr.mk m (0 : Nat) none) = some p148 ∧
 ∃ (a149 : Option Addr),
 ∃ (k150 : Nat),
 ∃ (k151 : Nat),
 Reads Try.prog
 (Instr.loadAt (60 : Nat) (Value.pointer (some (p148.add (1 : Nat)))))
 h147 (Value.slice a149 k150 k151) ∧
 ∃ (s152 : ByteArray),
 Reads Try.prog
 (Instr.loadAt (9 : Nat)
 (Value.pointer
 (some (Addr.mk (Array.size h101) (0 : Nat) none))))
 h147 (Value.string s152) ∧
 HC Try.prog (94 : Nat)
 (Array.mk
 [Value.slice a149 k150 k151,
 Value.agg
 (Array.mk
 [Value.string s152,
 Value.slice none (0 : Nat) (0 : Nat)])])
 h147 fun (v153 : Value) (h154 : Heap) =>
 ∃ (a155 : Option Addr),
 ∃ (k156 : Nat),
 ∃ (k157 : Nat),
 v153 = Value.slice a155 k156 k157 ∧
 ∃ (p158 : Addr),
 some (Addr.mk m (0 : Nat) none) = some p158 ∧
 SVC Try.prog
 (Instr.storeAt (60 : Nat)
 (Value.pointer (some (p158.add (1 : Nat))))
 (Value.slice a155 k156 k157))
 h154 fun (x159 : Unit) (h160 : Heap) =>
 I98 (IntKind.i64.wrap (n100 + (1 : Int))) h160 ∧
 I99 (IntKind.i64.wrap (n100 + (1 : Int))) h160 <
 I99 n100 h101)
 (I98 (IntKind.i64.wrap (n100 + (1 : Int))) h147 ∧
 I99 (IntKind.i64.wrap (n100 + (1 : Int))) h147 < I99 n100 h101))
 (∃ (p161 : Addr),
 some (Addr.mk m (0 : Nat) none) = some p161 ∧
 ∃ (a162 : Option Addr),
 ∃ (k163 : Nat),
 ∃ (k164 : Nat),
 Reads Try.prog (Instr.loadAt (60 : Nat) (Value.pointer (some (p161.add (1 : Nat))))) h101 (Value.slice a162 k163 k164) ∧
 ∃ (p165 : Addr),
 some (Addr.mk m (0 : Nat) none) = some p165 ∧
 SVC Try.prog (Instr.storeAt (60 : Nat) (Value.pointer (some p165)) (Value.slice a162 k163 k164)) h101
 fun (x166 : Unit) (h167 : Heap) =>
 ∃ (p168 : Addr),
 some (Addr.mk m (0 : Nat) none) = some p168 ∧
 SVC Try.prog
 (Instr.storeAt (61 : Nat) (Value.pointer (some (p168.add (2 : Nat)))) (Value.slice none (0 : Nat) (0 : Nat))) h167
 fun (x169 : Unit) (h170 : Heap) =>
 ∃ (p171 : Addr),
 some (Addr.mk m (0 : Nat) none) = some p171 ∧
 SVC Try.prog (Instr.storeAt (4 : Nat) (Value.pointer (some (p171.add (4 : Nat)))) (Value.bool true)) h170
 fun (x172 : Unit) (h173 : Heap) =>
 ∃ (p174 : Addr),
 some (Addr.mk m (0 : Nat) none) = some p174 ∧
 SVC Try.prog
 (Instr.storeAt (3 : Nat) (Value.pointer (some (p174.add (6 : Nat)))) (Value.int IntKind.i64 (0 : Int)))
 h173 fun (x175 : Unit) (h176 : Heap) => R (Value.tuple (Array.mk [])) h176)))) := by kernel_rfl

theorem vcRmay (m : Nat) (s : ByteArray) (h : Heap) (R : Value → Heap → Prop) :
    vcF Try.prog Try.f96 30 [] [] [.pointer (some ⟨m, 0, none⟩), .string s] h R =
(∃ (p0 : Addr),
 some (Addr.mk m (0 : Nat) none) = some p0 ∧
 ∃ (a1 : Option Addr),
 ∃ (k2 : Nat),
 ∃ (k3 : Nat),
 Reads Try.prog (Instr.loadAt (60 : Nat) (Value.pointer (some p0))) h (Value.slice a1 k2 k3) ∧
 HC Try.prog (92 : Nat) (Array.mk [Value.slice a1 k2 k3, Value.string s]) h fun (v4 : Value) (h5 : Heap) =>
 ∃ (s6 : ByteArray),
 ∃ (a7 : Option Addr),
 ∃ (k8 : Nat),
 ∃ (k9 : Nat),
 ∃ (b10 : Bool),
 v4 = Value.tuple (Array.mk [Value.agg (Array.mk [Value.string s6, Value.slice a7 k8 k9]), Value.bool b10]) ∧
 SVC Try.prog (Instr.storeAt (65 : Nat) (Value.pointer (some (Addr.mk (Array.size h5) (0 : Nat) none))) (Value.agg (Array.mk [Value.string s6, Value.slice a7 k8 k9])))
 (Array.push h5 (Obj.cells (Array.mk [Value.string (ByteArray.mk (Array.mk [])), Value.slice none (0 : Nat) (0 : Nat)]) (65 : Nat))) fun (x11 : Unit) (h12 : Heap) =>
 ∃ (p13 : Addr),
 some (Addr.mk m (0 : Nat) none) = some p13 ∧
 ∃ (b14 : Bool),
 Reads Try.prog (Instr.loadAt (4 : Nat) (Value.pointer (some (p13.add (4 : Nat))))) h12 (Value.bool b14) ∧
 br b14 (R (Value.int IntKind.i64 (8 : Int)) h12)
 (br (!b10) (R (Value.int IntKind.i64 (5 : Int)) h12)
 (HC Try.prog (93 : Nat) (Array.mk [Value.pointer (some (Addr.mk m (0 : Nat) none))]) h12 fun (v15 : Value) (h16 : Heap) =>
 ∃ (b17 : Bool),
 v15 = Value.bool b17 ∧
 br b17
 (∃ (p18 : Addr),
 some (Addr.mk m (0 : Nat) none) = some p18 ∧
 ∃ (n19 : Int),
 Reads Try.prog (Instr.loadAt (34 : Nat) (Value.pointer (some (p18.add (7 : Nat))))) h16 (Value.int IntKind.u64 n19) ∧
 HC Try.prog (69 : Nat) (Array.mk [Value.pointer (some (Addr.mk m (0 : Nat) none)), Value.int IntKind.u64 n19]) h16
 fun (v20 : Value) (h21 : Heap) => v20 = Value.tuple (Array.mk []) ∧ R (Value.int IntKind.i64 (8 : Int)) h21)
 (R (Value.int IntKind.i64 (0 : Int)) h16)))) := by kernel_rfl

theorem vcRsync (m : Nat) (s : ByteArray) (h : Heap) (R : Value → Heap → Prop) :
    vcF Try.prog Try.f65 35 [] [] [.pointer (some ⟨m, 0, none⟩), .string s] h R =
(HC Try.prog (96 : Nat) (Array.mk [Value.pointer (some (Addr.mk m (0 : Nat) none)), Value.string s]) h fun (v0 : Value) (h1 : Heap) =>
 ∃ (n2 : Int),
 v0 = Value.int IntKind.i64 n2 ∧
 br (n2 == (0 : Int))
 (∃ (p3 : Addr),
 some (Addr.mk m (0 : Nat) none) = some p3 ∧
 ∃ (a4 : Option Addr),
 ∃ (k5 : Nat),
 ∃ (k6 : Nat),
 Reads Try.prog (Instr.loadAt (60 : Nat) (Value.pointer (some p3))) h1 (Value.slice a4 k5 k6) ∧
 HC Try.prog (92 : Nat) (Array.mk [Value.slice a4 k5 k6, Value.string s]) h1 fun (v7 : Value) (h8 : Heap) =>
 ∃ (s9 : ByteArray),
 ∃ (a10 : Option Addr),
 ∃ (k11 : Nat),
 ∃ (k12 : Nat),
 ∃ (b13 : Bool),
 v7 = Value.tuple (Array.mk [Value.agg (Array.mk [Value.string s9, Value.slice a10 k11 k12]), Value.bool b13]) ∧
 SVC Try.prog
 (Instr.storeAt (65 : Nat) (Value.pointer (some (Addr.mk (Array.size h8) (0 : Nat) none))) (Value.agg (Array.mk [Value.string s9, Value.slice a10 k11 k12])))
 (Array.push h8 (Obj.cells (Array.mk [Value.string (ByteArray.mk (Array.mk [])), Value.slice none (0 : Nat) (0 : Nat)]) (65 : Nat))) fun (x14 : Unit) (h15 : Heap) =>
 ∃ (p16 : Addr),
 some (Addr.mk m (0 : Nat) none) = some p16 ∧
 ∃ (a17 : Option Addr),
 ∃ (k18 : Nat),
 ∃ (k19 : Nat),
 Reads Try.prog (Instr.loadAt (60 : Nat) (Value.pointer (some (p16.add (1 : Nat))))) h15 (Value.slice a17 k18 k19) ∧
 ∃ (s20 : ByteArray),
 ∃ (a21 : Option Addr),
 ∃ (k22 : Nat),
 ∃ (k23 : Nat),
 Reads Try.prog (Instr.loadAt (65 : Nat) (Value.pointer (some (Addr.mk (Array.size h8) (0 : Nat) none)))) h15
 (Value.agg (Array.mk [Value.string s20, Value.slice a21 k22 k23])) ∧
 HC Try.prog (94 : Nat) (Array.mk [Value.slice a17 k18 k19, Value.agg (Array.mk [Value.string s20, Value.slice a21 k22 k23])]) h15
 fun (v24 : Value) (h25 : Heap) =>
 ∃ (a26 : Option Addr),
 ∃ (k27 : Nat),
 ∃ (k28 : Nat),
 v24 = Value.slice a26 k27 k28 ∧
 ∃ (p29 : Addr),
 some (Addr.mk m (0 : Nat) none) = some p29 ∧
 SVC Try.prog (Instr.storeAt (60 : Nat) (Value.pointer (some (p29.add (1 : Nat)))) (Value.slice a26 k27 k28)) h25
 fun (x30 : Unit) (h31 : Heap) =>
 HC Try.prog (97 : Nat)
 (Array.mk [Value.pointer (some (Addr.mk m (0 : Nat) none)), Value.string s, Value.int IntKind.i64 (0 : Int)]) h31
 fun (v32 : Value) (h33 : Heap) => v32 = Value.tuple (Array.mk []) ∧ R (Value.int IntKind.i64 n2) h33)
 (R (Value.int IntKind.i64 n2) h1)) := by kernel_rfl

theorem vcRcut (m : Nat) (s : ByteArray) (n : Int) (h : Heap) (R : Value → Heap → Prop) :
    vcF Try.prog Try.f66 85 [] [] [.pointer (some ⟨m, 0, none⟩), .string s, .int .i64 n] h R =
(∃ (p0 : Addr),
 some (Addr.mk m (0 : Nat) none) = some p0 ∧
 ∃ (a1 : Option Addr),
 ∃ (k2 : Nat),
 ∃ (k3 : Nat),
 Reads Try.prog (Instr.loadAt (60 : Nat) (Value.pointer (some p0))) h (Value.slice a1 k2 k3) ∧
 HC Try.prog (92 : Nat) (Array.mk [Value.slice a1 k2 k3, Value.string s]) h fun (v4 : Value) (h5 : Heap) =>
 ∃ (s6 : ByteArray),
 ∃ (a7 : Option Addr),
 ∃ (k8 : Nat),
 ∃ (k9 : Nat),
 ∃ (b10 : Bool),
 v4 = Value.tuple (Array.mk [Value.agg (Array.mk [Value.string s6, Value.slice a7 k8 k9]), Value.bool b10]) ∧
 SVC Try.prog (Instr.storeAt (65 : Nat) (Value.pointer (some (Addr.mk (Array.size h5) (0 : Nat) none))) (Value.agg (Array.mk [Value.string s6, Value.slice a7 k8 k9])))
 (Array.push h5 (Obj.cells (Array.mk [Value.string (ByteArray.mk (Array.mk [])), Value.slice none (0 : Nat) (0 : Nat)]) (65 : Nat))) fun (x11 : Unit) (h12 : Heap) =>
 ∃ (p13 : Addr),
 some (Addr.mk m (0 : Nat) none) = some p13 ∧
 ∃ (b14 : Bool),
 Reads Try.prog (Instr.loadAt (4 : Nat) (Value.pointer (some (p13.add (4 : Nat))))) h12 (Value.bool b14) ∧
 br (!b14 && b10 && decide (n < (0 : Int))) (R (Value.int IntKind.i64 (1 : Int)) h12)
 (HC Try.prog (96 : Nat) (Array.mk [Value.pointer (some (Addr.mk m (0 : Nat) none)), Value.string s]) h12 fun (v15 : Value) (h16 : Heap) =>
 ∃ (n17 : Int),
 v15 = Value.int IntKind.i64 n17 ∧
 br (n17 == (0 : Int))
 (∃ (p18 : Addr),
 some (Addr.mk m (0 : Nat) none) = some p18 ∧
 ∃ (a19 : Option Addr),
 ∃ (k20 : Nat),
 ∃ (k21 : Nat),
 Reads Try.prog (Instr.loadAt (60 : Nat) (Value.pointer (some p18))) h16 (Value.slice a19 k20 k21) ∧
 HC Try.prog (92 : Nat) (Array.mk [Value.slice a19 k20 k21, Value.string s]) h16 fun (v22 : Value) (h23 : Heap) =>
 ∃ (s24 : ByteArray),
 ∃ (a25 : Option Addr),
 ∃ (k26 : Nat),
 ∃ (k27 : Nat),
 ∃ (b28 : Bool),
 v22 = Value.tuple (Array.mk [Value.agg (Array.mk [Value.string s24, Value.slice a25 k26 k27]), Value.bool b28]) ∧
 SVC Try.prog
 (Instr.storeAt (65 : Nat) (Value.pointer (some (Addr.mk (Array.size h23) (0 : Nat) none)))
 (Value.agg (Array.mk [Value.string s24, Value.slice a25 k26 k27])))
 (Array.push h23
 (Obj.cells (Array.mk [Value.string (ByteArray.mk (Array.mk [])), Value.slice none (0 : Nat) (0 : Nat)]) (65 : Nat)))
 fun (x29 : Unit) (h30 : Heap) =>
 ∃ (p31 : Addr),
 some (Addr.mk m (0 : Nat) none) = some p31 ∧
 ∃ (a32 : Option Addr),
 ∃ (k33 : Nat),
 ∃ (k34 : Nat),
 Reads Try.prog (Instr.loadAt (60 : Nat) (Value.pointer (some (p31.add (1 : Nat))))) h30 (Value.slice a32 k33 k34) ∧
 HC Try.prog (92 : Nat) (Array.mk [Value.slice a32 k33 k34, Value.string s]) h30 fun (v35 : Value) (h36 : Heap) =>
 ∃ (s37 : ByteArray),
 ∃ (a38 : Option Addr),
 ∃ (k39 : Nat),
 ∃ (k40 : Nat),
 ∃ (b41 : Bool),
 v35 =
 Value.tuple
 (Array.mk [Value.agg (Array.mk [Value.string s37, Value.slice a38 k39 k40]), Value.bool b41]) ∧
 SVC Try.prog
 (Instr.storeAt (65 : Nat) (Value.pointer (some (Addr.mk (Array.size h36) (0 : Nat) none)))
 (Value.agg (Array.mk [Value.string s37, Value.slice a38 k39 k40])))
 (Array.push h36
 (Obj.cells
 (Array.mk [Value.string (ByteArray.mk (Array.mk [])), Value.slice none (0 : Nat) (0 : Nat)])
 (65 : Nat)))
 fun (x42 : Unit) (h43 : Heap) =>
 ∃ (I44 : Heap → Prop),
 I44 h43 ∧
 ∃ (p45 : Addr),
 some (Addr.mk m (0 : Nat) none) = some p45 ∧
 ∃ (a46 : Option Addr),
 ∃ (k47 : Nat),
 ∃ (k48 : Nat),
 (∀ (h49 : Heap),
 I44 h49 →
 Reads Try.prog (Instr.loadAt (60 : Nat) (Value.pointer (some p45))) h49
 (Value.slice a46 k47 k48)) ∧
 ∃ (s50 : ByteArray),
 ∃ (a51 : Option Addr),
 ∃ (k52 : Nat),
 ∃ (k53 : Nat),
 Reads Try.prog
 (Instr.loadAt (65 : Nat)
 (Value.pointer (some (Addr.mk (Array.size h23) (0 : Nat) none))))
 h43
 (Value.agg (Array.mk [Value.string s50, Value.slice a51 k52 k53])) ∧
 HC Try.prog (98 : Nat)
 (Array.mk
 [Value.agg (Array.mk [Value.string s50, Value.slice a51 k52 k53]),
 Value.int IntKind.i64 n])
 h43 fun (v54 : Value) (h55 : Heap) =>
 ∃ (s56 : ByteArray),
 ∃ (a57 : Option Addr),
 ∃ (k58 : Nat),
 ∃ (k59 : Nat),
 v54 =
 Value.agg
 (Array.mk [Value.string s56, Value.slice a57 k58 k59]) ∧
 I44 h55 ∧
 HC Try.prog (94 : Nat)
 (Array.mk
 [Value.slice a46 k47 k48,
 Value.agg
 (Array.mk
 [Value.string s56, Value.slice a57 k58 k59])])
 h55 fun (v60 : Value) (h61 : Heap) =>
 ∃ (a62 : Option Addr),
 ∃ (k63 : Nat),
 ∃ (k64 : Nat),
 v60 = Value.slice a62 k63 k64 ∧
 ∃ (p65 : Addr),
 some (Addr.mk m (0 : Nat) none) = some p65 ∧
 SVC Try.prog
 (Instr.storeAt (60 : Nat)
 (Value.pointer (some p65))
 (Value.slice a62 k63 k64))
 h61 fun (x66 : Unit) (h67 : Heap) =>
 ∃ (I68 : Heap → Prop),
 I68 h67 ∧
 ∃ (p69 : Addr),
 some (Addr.mk m (0 : Nat) none) =
 some p69 ∧
 ∃ (a70 : Option Addr),
 ∃ (k71 : Nat),
 ∃ (k72 : Nat),
 (∀ (h73 : Heap),
 I68 h73 →
 Reads Try.prog
 (Instr.loadAt
 (60 : Nat)
 (Value.pointer
 (some
 (p69.add
 (1 :
 Nat)))))
 h73
 (Value.slice a70 k71
 k72)) ∧
 ∃ (s74 : ByteArray),
 ∃ (a75 : Option Addr),
 ∃ (k76 : Nat),
 ∃ (k77 : Nat),
 Reads Try.prog
 (Instr.loadAt
 (65 : Nat)
 (Value.pointer
 (some
 (Addr.mk
 (Array.size
 h36)
 (0 :
 Nat)
 none))))
 h67
 (Value.agg
 (Array.mk
 [Value.string
 s74,
 Value.slice
 a75
 k76
 k77])) ∧
 HC Try.prog
 (98 : Nat)
 (Array.mk
 [Value.agg
 (Array.mk
 [Value.string
 s74,
 Value.slice
 a75
 k76
 k77]),
 Value.int
 IntKind.i64
 n])
 h67
 fun
 (v78 :
 Value)
 (h79 :
 Heap) =>
 ∃ (s80 :
 ByteArray),
 ∃ (a81 :
 Option
 Addr),
 ∃ (k82 :
 Nat),
 ∃ (k83 :
 Nat),
 v78 =
 Value.agg
 (Array.mk
 [Value.string
 s80,
 Value.slice
 a81
 k82
 k83]) ∧
 I68
 h79 ∧
 HC
 Try.prog
 (94 :
 Nat)
 (Array.mk
 [Value.slice
 a70
 k71
 k72,
 Value.agg
 (Array.mk
 [Value.string
 s80,
 Value.slice
 a81
 k82
 k83])])
 h79
 fun
 (v84 :
 Value)
 (h85 :
 Heap) =>
 ∃
 (a86
 :
 Option
 Addr),
 ∃
 (k87
 :
 Nat),
 ∃
 (k88
 :
 Nat),
 v84 =
 Value.slice
 a86
 k87
 k88 ∧
 ∃
 (p89
 :
 Addr),
 some
 (Addr.mk
 m
 (0 :
 Nat)
 none) =
 some
 p89 ∧
 SVC
 Try.prog
 (Instr.storeAt
 (60 :
 Nat)
 (Value.pointer
 (some
 (p89.add
 (1 :
 Nat))))
 (Value.slice
 a86
 k87
 k88))
 h85
 fun
 (x90 :
 Unit)
 (h91 :
 Heap) =>
 HC
 Try.prog
 (97 :
 Nat)
 (Array.mk
 [Value.pointer
 (some
 (Addr.mk
 m
 (0 :
 Nat)
 none)),
 Value.string
 s,
 Value.int
 IntKind.i64
 n])
 h91
 fun
 (v92 :
 Value)
 (h93 :
 Heap) =>
 v92 =
 Value.tuple
 (Array.mk
 []) ∧
 R
 (Value.int
 IntKind.i64
 n17)
 h93)
 (R (Value.int IntKind.i64 n17) h16))) := by kernel_rfl

theorem vcRrename (m : Nat) (s t : ByteArray) (h : Heap) (R : Value → Heap → Prop) :
    vcF Try.prog Try.f67 96 [] [] [.pointer (some ⟨m, 0, none⟩), .string s, .string t] h R =
(HC Try.prog (96 : Nat) (Array.mk [Value.pointer (some (Addr.mk m (0 : Nat) none)), Value.string s]) h fun (v0 : Value) (h1 : Heap) =>
 ∃ (n2 : Int),
 v0 = Value.int IntKind.i64 n2 ∧
 br (n2 != (0 : Int) || s.toList == t.toList) (R (Value.int IntKind.i64 n2) h1)
 (∃ (p3 : Addr),
 some (Addr.mk m (0 : Nat) none) = some p3 ∧
 ∃ (a4 : Option Addr),
 ∃ (k5 : Nat),
 ∃ (k6 : Nat),
 Reads Try.prog (Instr.loadAt (60 : Nat) (Value.pointer (some p3))) h1 (Value.slice a4 k5 k6) ∧
 HC Try.prog (92 : Nat) (Array.mk [Value.slice a4 k5 k6, Value.string s]) h1 fun (v7 : Value) (h8 : Heap) =>
 ∃ (s9 : ByteArray),
 ∃ (a10 : Option Addr),
 ∃ (k11 : Nat),
 ∃ (k12 : Nat),
 ∃ (b13 : Bool),
 v7 = Value.tuple (Array.mk [Value.agg (Array.mk [Value.string s9, Value.slice a10 k11 k12]), Value.bool b13]) ∧
 SVC Try.prog
 (Instr.storeAt (65 : Nat) (Value.pointer (some (Addr.mk (Array.size h8) (0 : Nat) none))) (Value.agg (Array.mk [Value.string s9, Value.slice a10 k11 k12])))
 (Array.push h8 (Obj.cells (Array.mk [Value.string (ByteArray.mk (Array.mk [])), Value.slice none (0 : Nat) (0 : Nat)]) (65 : Nat))) fun (x14 : Unit) (h15 : Heap) =>
 ∃ (p16 : Addr),
 some (Addr.mk m (0 : Nat) none) = some p16 ∧
 ∃ (a17 : Option Addr),
 ∃ (k18 : Nat),
 ∃ (k19 : Nat),
 Reads Try.prog (Instr.loadAt (60 : Nat) (Value.pointer (some (p16.add (1 : Nat))))) h15 (Value.slice a17 k18 k19) ∧
 HC Try.prog (92 : Nat) (Array.mk [Value.slice a17 k18 k19, Value.string s]) h15 fun (v20 : Value) (h21 : Heap) =>
 ∃ (s22 : ByteArray),
 ∃ (a23 : Option Addr),
 ∃ (k24 : Nat),
 ∃ (k25 : Nat),
 ∃ (b26 : Bool),
 v20 = Value.tuple (Array.mk [Value.agg (Array.mk [Value.string s22, Value.slice a23 k24 k25]), Value.bool b26]) ∧
 SVC Try.prog
 (Instr.storeAt (65 : Nat) (Value.pointer (some (Addr.mk (Array.size h21) (0 : Nat) none)))
 (Value.agg (Array.mk [Value.string s22, Value.slice a23 k24 k25])))
 (Array.push h21 (Obj.cells (Array.mk [Value.string (ByteArray.mk (Array.mk [])), Value.slice none (0 : Nat) (0 : Nat)]) (65 : Nat)))
 fun (x27 : Unit) (h28 : Heap) =>
 SVC Try.prog (Instr.storeAt (9 : Nat) (Value.pointer (some (Addr.mk (Array.size h8) (0 : Nat) none))) (Value.string t)) h28
 fun (x29 : Unit) (h30 : Heap) =>
 SVC Try.prog (Instr.storeAt (9 : Nat) (Value.pointer (some (Addr.mk (Array.size h21) (0 : Nat) none))) (Value.string t)) h30
 fun (x31 : Unit) (h32 : Heap) =>
 HC Try.prog (97 : Nat) (Array.mk [Value.pointer (some (Addr.mk m (0 : Nat) none)), Value.string t, Value.int IntKind.i64 (0 : Int)])
 h32 fun (v33 : Value) (h34 : Heap) =>
 v33 = Value.tuple (Array.mk []) ∧
 ∃ (p35 : Addr),
 some (Addr.mk m (0 : Nat) none) = some p35 ∧
 ∃ (a36 : Option Addr),
 ∃ (k37 : Nat),
 ∃ (k38 : Nat),
 Reads Try.prog (Instr.loadAt (61 : Nat) (Value.pointer (some (p35.add (2 : Nat))))) h34 (Value.slice a36 k37 k38) ∧
 ∃ (I39 : Int → Heap → Prop),
 ∃ (I40 : Int → Heap → Nat),
 I39 (0 : Int) h34 ∧
 ∀ (n41 : Int) (h42 : Heap),
 I39 n41 h42 →
 br (decide (n41 < (↑k37 : Int)))
 (∃ (p43 : Addr),
 (a36 = some p43 ∧ (0 : Int) ≤ n41 ∧ n41 < (↑k37 : Int)) ∧
 ∃ (s44 : ByteArray),
 ∃ (n45 : Int),
 ∃ (s46 : ByteArray),
 Reads Try.prog
 (Instr.loadAt (141 : Nat) (Value.pointer (some (p43.add (n41.toNat * (3 : Nat)))))) h42
 (Value.agg (Array.mk [Value.string s44, Value.int IntKind.i64 n45, Value.string s46])) ∧
 SVC Try.prog
 (Instr.storeAt (141 : Nat)
 (Value.pointer (some (Addr.mk (Array.size h42) (0 : Nat) none)))
 (Value.agg (Array.mk [Value.string s44, Value.int IntKind.i64 n45, Value.string s46])))
 (Array.push h42
 (Obj.cells
 (Array.mk
 [Value.string (ByteArray.mk (Array.mk [])), Value.int IntKind.i64 (0 : Int),
 Value.string (ByteArray.mk (Array.mk []))])
 (141 : Nat)))
 fun (x47 : Unit) (h48 : Heap) =>
 ∃ (s49 : ByteArray),
 Reads Try.prog
 (Instr.loadAt (9 : Nat)
 (Value.pointer (some (Addr.mk (Array.size h42) (0 : Nat) none))))
 h48 (Value.string s49) ∧
 br (s49.toList == s.toList)
 (∃ (p50 : Addr),
 some (Addr.mk m (0 : Nat) none) = some p50 ∧
 ∃ (a51 : Option Addr),
 ∃ (k52 : Nat),
 ∃ (k53 : Nat),
 Reads Try.prog
 (Instr.loadAt (61 : Nat) (Value.pointer (some (p50.add (2 : Nat)))))
 h48 (Value.slice a51 k52 k53) ∧
 ∃ (p54 : Addr),
 (a51 = some p54 ∧ (0 : Int) ≤ n41 ∧ n41 < (↑k52 : Int)) ∧
 SVC Try.prog
 (Instr.storeAt (9 : Nat)
 (Value.pointer (some (p54.add (n41.toNat * (3 : Nat)))))
 (Value.string t))
 h48 fun (x55 : Unit) (h56 : Heap) =>
 I39 (IntKind.i64.wrap (n41 + (1 : Int))) h56 ∧
 I40 (IntKind.i64.wrap (n41 + (1 : Int))) h56 < I40 n41 h42)
 (I39 (IntKind.i64.wrap (n41 + (1 : Int))) h48 ∧
 I40 (IntKind.i64.wrap (n41 + (1 : Int))) h48 < I40 n41 h42))
 (∃ (I57 : Heap → Prop),
 I57 h42 ∧
 ∃ (p58 : Addr),
 some (Addr.mk m (0 : Nat) none) = some p58 ∧
 ∃ (a59 : Option Addr),
 ∃ (k60 : Nat),
 ∃ (k61 : Nat),
 Reads Try.prog (Instr.loadAt (60 : Nat) (Value.pointer (some p58))) h42
 (Value.slice a59 k60 k61) ∧
 HC Try.prog (99 : Nat) (Array.mk [Value.slice a59 k60 k61, Value.string s]) h42
 fun (v62 : Value) (h63 : Heap) =>
 ∃ (a64 : Option Addr),
 ∃ (k65 : Nat),
 ∃ (k66 : Nat),
 v62 = Value.slice a64 k65 k66 ∧
 I57 h63 ∧
 ∃ (s67 : ByteArray),
 ∃ (a68 : Option Addr),
 ∃ (k69 : Nat),
 ∃ (k70 : Nat),
 (∀ (h71 : Heap),
 I57 h71 →
 Reads Try.prog
 (Instr.loadAt (65 : Nat)
 (Value.pointer
 (some (Addr.mk (Array.size h8) (0 : Nat) none))))
 h71
 (Value.agg
 (Array.mk [Value.string s67, Value.slice a68 k69 k70]))) ∧
 HC Try.prog (94 : Nat)
 (Array.mk
 [Value.slice a64 k65 k66,
 Value.agg
 (Array.mk [Value.string s67, Value.slice a68 k69 k70])])
 h63 fun (v72 : Value) (h73 : Heap) =>
 ∃ (a74 : Option Addr),
 ∃ (k75 : Nat),
 ∃ (k76 : Nat),
 v72 = Value.slice a74 k75 k76 ∧
 ∃ (p77 : Addr),
 some (Addr.mk m (0 : Nat) none) = some p77 ∧
 SVC Try.prog
 (Instr.storeAt (60 : Nat)
 (Value.pointer (some p77))
 (Value.slice a74 k75 k76))
 h73 fun (x78 : Unit) (h79 : Heap) =>
 ∃ (I80 : Heap → Prop),
 I80 h79 ∧
 ∃ (p81 : Addr),
 some (Addr.mk m (0 : Nat) none) = some p81 ∧
 ∃ (a82 : Option Addr),
 ∃ (k83 : Nat),
 ∃ (k84 : Nat),
 Reads Try.prog
 (Instr.loadAt (60 : Nat)
 (Value.pointer
 (some (p81.add (1 : Nat)))))
 h79 (Value.slice a82 k83 k84) ∧
 HC Try.prog (99 : Nat)
 (Array.mk
 [Value.slice a82 k83 k84,
 Value.string s])
 h79
 fun (v85 : Value)
 (h86 : Heap) =>
 ∃ (a87 : Option Addr),
 ∃ (k88 : Nat),
 ∃ (k89 : Nat),
 v85 =
 Value.slice a87 k88
 k89 ∧
 I80 h86 ∧
 ∃ (s90 : ByteArray),
 ∃ (a91 :
 Option Addr),
 ∃ (k92 : Nat),
 ∃ (k93 : Nat),
 (∀
 (h94 :
 Heap),
 I80 h94 →
 Reads
 Try.prog
 (Instr.loadAt
 (65 :
 Nat)
 (Value.pointer
 (some
 (Addr.mk
 (Array.size
 h21)
 (0 :
 Nat)
 none))))
 h94
 (Value.agg
 (Array.mk
 [Value.string
 s90,
 Value.slice
 a91
 k92
 k93]))) ∧
 HC Try.prog
 (94 : Nat)
 (Array.mk
 [Value.slice
 a87
 k88
 k89,
 Value.agg
 (Array.mk
 [Value.string
 s90,
 Value.slice
 a91
 k92
 k93])])
 h86
 fun
 (v95 :
 Value)
 (h96 :
 Heap) =>
 ∃ (a97 :
 Option
 Addr),
 ∃ (k98 :
 Nat),
 ∃ (k99
 :
 Nat),
 v95 =
 Value.slice
 a97
 k98
 k99 ∧
 ∃
 (p100
 :
 Addr),
 some
 (Addr.mk
 m
 (0 :
 Nat)
 none) =
 some
 p100 ∧
 SVC
 Try.prog
 (Instr.storeAt
 (60 :
 Nat)
 (Value.pointer
 (some
 (p100.add
 (1 :
 Nat))))
 (Value.slice
 a97
 k98
 k99))
 h96
 fun
 (x101 :
 Unit)
 (h102 :
 Heap) =>
 R
 (Value.int
 IntKind.i64
 n2)
 h102))) := by kernel_rfl

theorem vcRremove (m : Nat) (s : ByteArray) (h : Heap) (R : Value → Heap → Prop) :
    vcF Try.prog Try.f68 33 [] [] [.pointer (some ⟨m, 0, none⟩), .string s] h R =
(HC Try.prog (96 : Nat) (Array.mk [Value.pointer (some (Addr.mk m (0 : Nat) none)), Value.string s]) h fun (v0 : Value) (h1 : Heap) =>
 ∃ (n2 : Int),
 v0 = Value.int IntKind.i64 n2 ∧
 br (n2 == (0 : Int))
 (∃ (p3 : Addr),
 some (Addr.mk m (0 : Nat) none) = some p3 ∧
 ∃ (a4 : Option Addr),
 ∃ (k5 : Nat),
 ∃ (k6 : Nat),
 Reads Try.prog (Instr.loadAt (60 : Nat) (Value.pointer (some p3))) h1 (Value.slice a4 k5 k6) ∧
 HC Try.prog (99 : Nat) (Array.mk [Value.slice a4 k5 k6, Value.string s]) h1 fun (v7 : Value) (h8 : Heap) =>
 ∃ (a9 : Option Addr),
 ∃ (k10 : Nat),
 ∃ (k11 : Nat),
 v7 = Value.slice a9 k10 k11 ∧
 ∃ (p12 : Addr),
 some (Addr.mk m (0 : Nat) none) = some p12 ∧
 SVC Try.prog (Instr.storeAt (60 : Nat) (Value.pointer (some p12)) (Value.slice a9 k10 k11)) h8 fun (x13 : Unit) (h14 : Heap) =>
 ∃ (p15 : Addr),
 some (Addr.mk m (0 : Nat) none) = some p15 ∧
 ∃ (a16 : Option Addr),
 ∃ (k17 : Nat),
 ∃ (k18 : Nat),
 Reads Try.prog (Instr.loadAt (60 : Nat) (Value.pointer (some (p15.add (1 : Nat))))) h14 (Value.slice a16 k17 k18) ∧
 HC Try.prog (99 : Nat) (Array.mk [Value.slice a16 k17 k18, Value.string s]) h14 fun (v19 : Value) (h20 : Heap) =>
 ∃ (a21 : Option Addr),
 ∃ (k22 : Nat),
 ∃ (k23 : Nat),
 v19 = Value.slice a21 k22 k23 ∧
 ∃ (p24 : Addr),
 some (Addr.mk m (0 : Nat) none) = some p24 ∧
 SVC Try.prog (Instr.storeAt (60 : Nat) (Value.pointer (some (p24.add (1 : Nat)))) (Value.slice a21 k22 k23)) h20
 fun (x25 : Unit) (h26 : Heap) =>
 HC Try.prog (97 : Nat) (Array.mk [Value.pointer (some (Addr.mk m (0 : Nat) none)), Value.string s, Value.int IntKind.i64 (0 : Int)]) h26
 fun (v27 : Value) (h28 : Heap) => v27 = Value.tuple (Array.mk []) ∧ R (Value.int IntKind.i64 n2) h28)
 (R (Value.int IntKind.i64 n2) h1)) := by kernel_rfl

theorem vcDnames (d : Nat) (h : Heap) (R : Value → Heap → Prop) :
    vcF Try.prog Try.f33 13 [] [] [.pointer (some ⟨d, 0, none⟩)] h R =
(HC Try.prog (47 : Nat) (Array.mk [Value.pointer (some (Addr.mk d (0 : Nat) none))]) h fun (v0 : Value) (h1 : Heap) =>
 ∃ (n2 : Int),
 v0 = Value.int IntKind.i64 n2 ∧
 br (n2 != (0 : Int)) (R (Value.slice none (0 : Nat) (0 : Nat)) h1)
 (∃ (p3 : Addr),
 some (Addr.mk d (0 : Nat) none) = some p3 ∧
 ∃ (a4 : Option Nat),
 Reads Try.prog (Instr.loadAt (84 : Nat) (Value.pointer (some p3))) h1 (Value.map a4) ∧
 HC Try.prog (72 : Nat) (Array.mk [Value.map a4]) h1 fun (v5 : Value) (h6 : Heap) =>
 ∃ (v7 : Value),
 v5 = v7 ∧
 HC Try.prog (71 : Nat) (Array.mk [v7]) h6 fun (v8 : Value) (h9 : Heap) =>
 ∃ (a10 : Option Addr), ∃ (k11 : Nat), ∃ (k12 : Nat), v8 = Value.slice a10 k11 k12 ∧ R (Value.slice a10 k11 k12) h9)) := by kernel_rfl

theorem vcDacts (d : Nat) (h : Heap) (R : Value → Heap → Prop) :
    vcF Try.prog Try.f30 9 [] [] [.pointer (some ⟨d, 0, none⟩)] h R =
(∃ (b0 : Bool),
 Reads Try.prog (eqSem BinOp.eql (24 : Nat) (Operand.tmp (3 : Nat)) (Operand.const (Value.pointer none)) (Value.pointer (some (Addr.mk d (0 : Nat) none))) (Value.pointer none)) h (Value.bool b0) ∧
 br b0 (R (Value.int IntKind.i64 (0 : Int)) h)
 (∃ (p1 : Addr),
 some (Addr.mk d (0 : Nat) none) = some p1 ∧
 ∃ (n2 : Int), Reads Try.prog (Instr.loadAt (3 : Nat) (Value.pointer (some (p1.add (7 : Nat))))) h (Value.int IntKind.i64 n2) ∧ R (Value.int IntKind.i64 n2) h)) := by kernel_rfl

theorem vcDdown (d : Nat) (h : Heap) (R : Value → Heap → Prop) :
    vcF Try.prog Try.f31 11 [] [] [.pointer (some ⟨d, 0, none⟩)] h R =
(∃ (b0 : Bool),
 Reads Try.prog (eqSem BinOp.neq (24 : Nat) (Operand.tmp (3 : Nat)) (Operand.const (Value.pointer none)) (Value.pointer (some (Addr.mk d (0 : Nat) none))) (Value.pointer none)) h (Value.bool b0) ∧
 ∃ (p1 : Addr),
 (b0 = true → some (Addr.mk d (0 : Nat) none) = some p1) ∧
 ∃ (b2 : Bool), (b0 = true → Reads Try.prog (Instr.loadAt (4 : Nat) (Value.pointer (some (p1.add (6 : Nat))))) h (Value.bool b2)) ∧ R (Value.bool (b0 && b2)) h) := by kernel_rfl

theorem vcSame (A : Option Addr) (n c : Nat) (B : Option Addr) (m d : Nat) (h : Heap) (R : Value → Heap → Prop) :
    vcF Try.prog Try.f32 26 [] [] [.slice A n c, .slice B m d] h R =
(br ((↑n : Int) != (↑m : Int)) (R (Value.bool false) h)
 (∃ (I0 : Bool → Int → Heap → Prop),
 ∃ (I1 : Bool → Int → Heap → Nat),
 I0 false (0 : Int) h ∧
 ∀ (b2 : Bool) (n3 : Int) (h4 : Heap),
 I0 b2 n3 h4 →
 br (decide (n3 < (↑n : Int)))
 (∃ (p5 : Addr),
 (A = some p5 ∧ (0 : Int) ≤ n3 ∧ n3 < (↑n : Int)) ∧
 ∃ (s6 : ByteArray),
 Reads Try.prog (Instr.loadAt (9 : Nat) (Value.pointer (some (p5.add (n3.toNat * (1 : Nat)))))) h4 (Value.string s6) ∧
 ∃ (p7 : Addr),
 (B = some p7 ∧ (0 : Int) ≤ n3 ∧ n3 < (↑m : Int)) ∧
 ∃ (s8 : ByteArray),
 Reads Try.prog (Instr.loadAt (9 : Nat) (Value.pointer (some (p7.add (n3.toNat * (1 : Nat)))))) h4 (Value.string s8) ∧
 br (!s6.toList == s8.toList) (R (Value.bool false) h4) (I0 b2 (IntKind.i64.wrap (n3 + (1 : Int))) h4 ∧ I1 b2 (IntKind.i64.wrap (n3 + (1 : Int))) h4 < I1 b2 n3 h4))
 (R (Value.bool true) h4))) := by kernel_rfl
end Go.Proofs.Ytembbemljejjbaa
set_option linter.unusedVariables false
set_option maxRecDepth 100000
namespace Go.Proofs.Ytembbemljejjbaa
open Go Go.Vc Go.Proofs

theorem vcRwrite (m : Nat) (s : ByteArray) (i : Int) (b : ByteArray) (h : Heap) (R : Value → Heap → Prop) :
    vcF Try.prog Try.f63 91 [10] [] [.pointer (some ⟨m, 0, none⟩), .string s, .int .i64 i, .string b] h R =
(∃ (p0 : Addr),
 some (Addr.mk m (0 : Nat) none) = some p0 ∧
 ∃ (a1 : Option Addr),
 ∃ (k2 : Nat),
 ∃ (k3 : Nat),
 Reads Try.prog (Instr.loadAt (60 : Nat) (Value.pointer (some p0))) h (Value.slice a1 k2 k3) ∧
 HC Try.prog (92 : Nat) (Array.mk [Value.slice a1 k2 k3, Value.string s]) h fun (v4 : Value) (h5 : Heap) =>
 ∃ (s6 : ByteArray),
 ∃ (a7 : Option Addr),
 ∃ (k8 : Nat),
 ∃ (k9 : Nat),
 ∃ (b10 : Bool),
 v4 = Value.tuple (Array.mk [Value.agg (Array.mk [Value.string s6, Value.slice a7 k8 k9]), Value.bool b10]) ∧
 SVC Try.prog (Instr.storeAt (65 : Nat) (Value.pointer (some (Addr.mk (Array.size h5) (0 : Nat) none))) (Value.agg (Array.mk [Value.string s6, Value.slice a7 k8 k9])))
 (Array.push h5 (Obj.cells (Array.mk [Value.string (ByteArray.mk (Array.mk [])), Value.slice none (0 : Nat) (0 : Nat)]) (65 : Nat))) fun (x11 : Unit) (h12 : Heap) =>
 ∃ (p13 : Addr),
 some (Addr.mk m (0 : Nat) none) = some p13 ∧
 ∃ (b14 : Bool),
 Reads Try.prog (Instr.loadAt (4 : Nat) (Value.pointer (some (p13.add (4 : Nat))))) h12 (Value.bool b14) ∧
 br b14 (R (Value.int IntKind.i64 (8 : Int)) h12)
 (br (decide ((↑b.size : Int) > (512 : Int))) (R (Value.int IntKind.i64 (3 : Int)) h12)
 (∃ (a15 : Option Addr),
 ∃ (k16 : Nat),
 ∃ (k17 : Nat),
 ((!decide (i < (0 : Int))) = true →
 Reads Try.prog (Instr.loadAt (37 : Nat) (Value.pointer (some ((Addr.mk (Array.size h5) (0 : Nat) none).add (1 : Nat))))) h12
 (Value.slice a15 k16 k17)) ∧
 br (decide (i < (0 : Int)) || decide (i > (↑k16 : Int))) (R (Value.int IntKind.i64 (1 : Int)) h12)
 (∃ (I18 : Int → Heap → Prop),
 (∃ (a19 : Option Addr),
 ∃ (k20 : Nat),
 ∃ (k21 : Nat),
 Reads Try.prog (Instr.loadAt (37 : Nat) (Value.pointer (some ((Addr.mk (Array.size h5) (0 : Nat) none).add (1 : Nat))))) h12
 (Value.slice a19 k20 k21) ∧
 br (decide (i = (↑k20 : Int)))
 (HC Try.prog (74 : Nat) (Array.mk [Value.pointer (some (Addr.mk m (0 : Nat) none))]) h12 fun (v22 : Value) (h23 : Heap) =>
 ∃ (n24 : Int), v22 = Value.int IntKind.i64 n24 ∧ br (n24 == (0 : Int)) (R (Value.int IntKind.i64 (7 : Int)) h23) (I18 (0 : Int) h23))
 (I18 (0 : Int) h12)) ∧
 ∀ (n25 : Int) (h26 : Heap),
 I18 n25 h26 →
 HC Try.prog (93 : Nat) (Array.mk [Value.pointer (some (Addr.mk m (0 : Nat) none))]) h26 fun (v27 : Value) (h28 : Heap) =>
 ∃ (b29 : Bool),
 v27 = Value.bool b29 ∧
 SVC Try.prog
 (Instr.makeSlice (22 : Nat) (Value.int IntKind.i64 (IntKind.i64.wrap ((512 : Int) - (↑b.size : Int))))
 (Value.int IntKind.i64 (IntKind.i64.wrap ((512 : Int) - (↑b.size : Int)))))
 h28 fun (v30 : Value) (h31 : Heap) =>
 ∃ (a32 : Option Addr),
 ∃ (k33 : Nat),
 ∃ (k34 : Nat),
 v30 = Value.slice a32 k33 k34 ∧
 ∃ (s35 : ByteArray),
 Reads Try.prog (convert (22 : Nat) (9 : Nat) (Value.slice a32 k33 k34)) h31 (Value.string s35) ∧
 (↑(b.size + s35.size) : Int) ≤ IntKind.i64.max ∧
 ∃ (I36 : Heap → Prop),
 I36 h31 ∧
 ∃ (p37 : Addr),
 some (Addr.mk m (0 : Nat) none) = some p37 ∧
 ∃ (a38 : Option Addr),
 ∃ (k39 : Nat),
 ∃ (k40 : Nat),
 (∀ (h41 : Heap),
 I36 h41 →
 Reads Try.prog (Instr.loadAt (60 : Nat) (Value.pointer (some p37))) h41 (Value.slice a38 k39 k40)) ∧
 ∃ (s42 : ByteArray),
 ∃ (a43 : Option Addr),
 ∃ (k44 : Nat),
 ∃ (k45 : Nat),
 Reads Try.prog
 (Instr.loadAt (65 : Nat) (Value.pointer (some (Addr.mk (Array.size h5) (0 : Nat) none))))
 h31 (Value.agg (Array.mk [Value.string s42, Value.slice a43 k44 k45])) ∧
 HC Try.prog (95 : Nat)
 (Array.mk
 [Value.agg (Array.mk [Value.string s42, Value.slice a43 k44 k45]),
 Value.int IntKind.i64 i, Value.string (b ++ s35)])
 h31 fun (v46 : Value) (h47 : Heap) =>
 ∃ (s48 : ByteArray),
 ∃ (a49 : Option Addr),
 ∃ (k50 : Nat),
 ∃ (k51 : Nat),
 v46 = Value.agg (Array.mk [Value.string s48, Value.slice a49 k50 k51]) ∧
 I36 h47 ∧
 HC Try.prog (94 : Nat)
 (Array.mk
 [Value.slice a38 k39 k40,
 Value.agg (Array.mk [Value.string s48, Value.slice a49 k50 k51])])
 h47 fun (v52 : Value) (h53 : Heap) =>
 ∃ (a54 : Option Addr),
 ∃ (k55 : Nat),
 ∃ (k56 : Nat),
 v52 = Value.slice a54 k55 k56 ∧
 ∃ (p57 : Addr),
 some (Addr.mk m (0 : Nat) none) = some p57 ∧
 SVC Try.prog
 (Instr.storeAt (60 : Nat) (Value.pointer (some p57))
 (Value.slice a54 k55 k56))
 h53 fun (x58 : Unit) (h59 : Heap) =>
 SVC Try.prog
 (Instr.buildSlice (61 : Nat) (0 : Nat) (Array.mk [])) h59
 fun (v60 : Value) (h61 : Heap) =>
 ∃ (a62 : Option Addr),
 ∃ (k63 : Nat),
 ∃ (k64 : Nat),
 v60 = Value.slice a62 k63 k64 ∧
 ∃ (p65 : Addr),
 some (Addr.mk m (0 : Nat) none) = some p65 ∧
 ∃ (a66 : Option Addr),
 ∃ (k67 : Nat),
 ∃ (k68 : Nat),
 Reads Try.prog
 (Instr.loadAt (61 : Nat)
 (Value.pointer
 (some (p65.add (2 : Nat)))))
 h61 (Value.slice a66 k67 k68) ∧
 SVC Try.prog
 (Builtin.append_
 (Array.mk [(61 : Nat), (61 : Nat)])
 (61 : Nat)
 (Array.mk
 [Value.slice a62 k63 k64,
 Value.slice a66 k67 k68]))
 h61 fun (v69 : Value) (h70 : Heap) =>
 ∃ (a71 : Option Addr),
 ∃ (k72 : Nat),
 ∃ (k73 : Nat),
 v69 = Value.slice a71 k72 k73 ∧
 SVC Try.prog
 (Instr.buildSlice (61 : Nat)
 (1 : Nat)
 (Array.mk
 [((0 : Nat),
 Value.agg
 (Array.mk
 [Value.string s,
 Value.int
 IntKind.i64 i,
 Value.string
 (b ++
 s35)]))]))
 h70
 fun (v74 : Value)
 (h75 : Heap) =>
 ∃ (a76 : Option Addr),
 ∃ (k77 : Nat),
 ∃ (k78 : Nat),
 v74 =
 Value.slice a76 k77
 k78 ∧
 SVC Try.prog
 (Builtin.append_
 (Array.mk
 [(61 : Nat),
 (61 : Nat)])
 (61 : Nat)
 (Array.mk
 [Value.slice a71
 k72 k73,
 Value.slice
 a76 k77
 k78]))
 h75
 fun (v79 : Value)
 (h80 : Heap) =>
 ∃ (a81 :
 Option Addr),
 ∃ (k82 : Nat),
 ∃ (k83 : Nat),
 v79 =
 Value.slice
 a81 k82
 k83 ∧
 ∃ (p84 :
 Addr),
 some
 (Addr.mk
 m
 (0 :
 Nat)
 none) =
 some
 p84 ∧
 SVC
 Try.prog
 (Instr.storeAt
 (61 :
 Nat)
 (Value.pointer
 (some
 (p84.add
 (2 :
 Nat))))
 (Value.slice
 a81
 k82
 k83))
 h80
 fun
 (x85 :
 Unit)
 (h86 :
 Heap) =>
 br b29
 (∃
 (p87
 :
 Addr),
 some
 (Addr.mk
 m
 (0 :
 Nat)
 none) =
 some
 p87 ∧
 ∃
 (n88
 :
 Int),
 Reads
 Try.prog
 (Instr.loadAt
 (34 :
 Nat)
 (Value.pointer
 (some
 (p87.add
 (7 :
 Nat)))))
 h86
 (Value.int
 IntKind.u64
 n88) ∧
 HC
 Try.prog
 (69 :
 Nat)
 (Array.mk
 [Value.pointer
 (some
 (Addr.mk
 m
 (0 :
 Nat)
 none)),
 Value.int
 IntKind.u64
 n88])
 h86
 fun
 (v89 :
 Value)
 (h90 :
 Heap) =>
 v89 =
 Value.tuple
 (Array.mk
 []) ∧
 R
 (Value.int
 IntKind.i64
 (8 :
 Int))
 h90)
 (R
 (Value.int
 IntKind.i64
 (0 :
 Int))
 h86))))) := by kernel_rfl
end Go.Proofs.Ytembbemljejjbaa
