/-
  What a call of each function comes to, as the symbolic run tells it: by the kernel's own reckoning. Conditions: none.
-/
import Derived.Test.YtcihjdalokaokaaGreatDoorVcE
import Derived.Test.YtcihjdalokaokaaGreatDoorProg
import Derived.KernelRfl
set_option linter.unusedVariables false
set_option maxRecDepth 100000
namespace Go.Proofs.YtcihjdalokaokaaGreatDoor
open Go Go.Vc Go.Proofs

theorem vc13Alive (h : Heap) (R : Value → Heap → Prop) :
    vcF Tryz.prog Tryz.f30 30 [] [] [] h R =
(HC Tryz.prog (31 : Nat) (Array.mk [Value.int IntKind.i64 (1 : Int), Value.pointer none, Value.string (ByteArray.mk (Array.mk []))]) h fun (v0 : Value) (h1 : Heap) =>
 ∃ (a2 : Option Addr),
 ∃ (n3 : Int),
 v0 = Value.tuple (Array.mk [Value.pointer a2, Value.int IntKind.i64 n3]) ∧
 HC Tryz.prog (32 : Nat) (Array.mk [Value.pointer a2, Value.int IntKind.i64 (1 : Int)]) h1 fun (v4 : Value) (h5 : Heap) =>
 ∃ (a6 : Option Addr),
 v4 = Value.pointer a6 ∧
 HC Tryz.prog (33 : Nat) (Array.mk [Value.pointer a6, Value.string (ByteArray.mk (Array.mk [(97 : UInt8)]))]) h5 fun (v7 : Value) (h8 : Heap) =>
 ∃ (s9 : ByteArray),
 ∃ (b10 : Bool),
 ∃ (n11 : Int),
 v7 = Value.tuple (Array.mk [Value.string s9, Value.bool b10, Value.int IntKind.i64 n11]) ∧
 HC Tryz.prog (33 : Nat) (Array.mk [Value.pointer a6, Value.string (ByteArray.mk (Array.mk [(97 : UInt8)]))]) h8 fun (v12 : Value) (h13 : Heap) =>
 ∃ (s14 : ByteArray),
 ∃ (b15 : Bool),
 ∃ (n16 : Int),
 v12 = Value.tuple (Array.mk [Value.string s14, Value.bool b15, Value.int IntKind.i64 n16]) ∧
 HC Tryz.prog (33 : Nat) (Array.mk [Value.pointer a6, Value.string (ByteArray.mk (Array.mk [(98 : UInt8)]))]) h13 fun (v17 : Value) (h18 : Heap) =>
 ∃ (s19 : ByteArray),
 ∃ (b20 : Bool),
 ∃ (n21 : Int),
 v17 = Value.tuple (Array.mk [Value.string s19, Value.bool b20, Value.int IntKind.i64 n21]) ∧
 HC Tryz.prog (33 : Nat) (Array.mk [Value.pointer a6, Value.string (ByteArray.mk (Array.mk [(97 : UInt8)]))]) h18 fun (v22 : Value) (h23 : Heap) =>
 ∃ (s24 : ByteArray),
 ∃ (b25 : Bool),
 ∃ (n26 : Int),
 v22 = Value.tuple (Array.mk [Value.string s24, Value.bool b25, Value.int IntKind.i64 n26]) ∧
 br (decide (n3 = (0 : Int)))
 (HC Tryz.prog (35 : Nat) (Array.mk [Value.pointer a6]) h23 fun (v27 : Value) (h28 : Heap) =>
 ∃ (n29 : Int),
 v27 = Value.int IntKind.i64 n29 ∧
 br (decide (n29 = (1 : Int)))
 (HC Tryz.prog (36 : Nat) (Array.mk [Value.pointer a6]) h28 fun (v30 : Value) (h31 : Heap) =>
 ∃ (n32 : Int), v30 = Value.int IntKind.i64 n32 ∧ R (Value.bool (n32 == (1 : Int))) h31)
 (R (Value.bool false) h28))
 (R (Value.bool false) h23)) := by kernel_rfl

theorem vc13Great (A : Option Addr) (n c : Nat) (h : Heap) (R : Value → Heap → Prop) :
    vcF Tryz.prog Tryz.f37 50 [] [] [.slice A n c] h R =
(∃ (I0 : Bool → Int → Int → Heap → Prop),
 ∃ (I1 : Bool → Int → Int → Heap → Nat),
 I0 false (0 : Int) (0 : Int) h ∧
 ∀ (b2 : Bool) (n3 n4 : Int) (h5 : Heap),
 I0 b2 n3 n4 h5 →
 br (decide (n4 < (↑n : Int)))
 (∃ (p6 : Addr),
 (A = some p6 ∧ (0 : Int) ≤ n4 ∧ n4 < (↑n : Int)) ∧
 ∃ (n7 : Int),
 ∃ (s8 : ByteArray),
 ∃ (n9 : Int),
 ∃ (a10 : Option Addr),
 ∃ (k11 : Nat),
 ∃ (k12 : Nat),
 Reads Tryz.prog (Instr.loadAt (66 : Nat) (Value.pointer (some (p6.add (n4.toNat * (4 : Nat)))))) h5
 (Value.agg (Array.mk [Value.int IntKind.i64 n7, Value.string s8, Value.int IntKind.i64 n9, Value.slice a10 k11 k12])) ∧
 SVC Tryz.prog
 (Instr.storeAt (66 : Nat) (Value.pointer (some (Addr.mk (Array.size h5) (0 : Nat) none)))
 (Value.agg (Array.mk [Value.int IntKind.i64 n7, Value.string s8, Value.int IntKind.i64 n9, Value.slice a10 k11 k12])))
 (Array.push h5
 (Obj.cells
 (Array.mk [Value.int IntKind.i64 (0 : Int), Value.string (ByteArray.mk (Array.mk [])), Value.int IntKind.i64 (0 : Int), Value.slice none (0 : Nat) (0 : Nat)])
 (66 : Nat)))
 fun (x13 : Unit) (h14 : Heap) =>
 ∃ (a15 : Option Addr),
 ∃ (k16 : Nat),
 ∃ (k17 : Nat),
 Reads Tryz.prog (Instr.loadAt (32 : Nat) (Value.pointer (some ((Addr.mk (Array.size h5) (0 : Nat) none).add (3 : Nat))))) h14 (Value.slice a15 k16 k17) ∧
 ∃ (s18 : ByteArray),
 Reads Tryz.prog (Instr.loadAt (9 : Nat) (Value.pointer (some ((Addr.mk (Array.size h5) (0 : Nat) none).add (1 : Nat))))) h14 (Value.string s18) ∧
 (16 : Int) ≠ (0 : Int) ∧
 br (decide (IntKind.i64.wrap (n3 + IntKind.i64.wrap ((↑k16 : Int) + IntKind.i64.wrap ((↑s18.size : Int).tdiv (16 : Int)))) > (800 : Int)))
 (R (Value.bool true) h14)
 (∃ (a19 : Option Addr),
 ∃ (k20 : Nat),
 ∃ (k21 : Nat),
 Reads Tryz.prog (Instr.loadAt (32 : Nat) (Value.pointer (some ((Addr.mk (Array.size h5) (0 : Nat) none).add (3 : Nat))))) h14
 (Value.slice a19 k20 k21) ∧
 ∃ (I22 : Bool → Int → Int → Heap → Prop),
 ∃ (I23 : Bool → Int → Int → Heap → Nat),
 I22 b2 (IntKind.i64.wrap (n3 + IntKind.i64.wrap ((↑k16 : Int) + IntKind.i64.wrap ((↑s18.size : Int).tdiv (16 : Int))))) (0 : Int) h14 ∧
 ∀ (b24 : Bool) (n25 n26 : Int) (h27 : Heap),
 I22 b24 n25 n26 h27 →
 br (decide (n26 < (↑k20 : Int)))
 (∃ (p28 : Addr),
 (a19 = some p28 ∧ (0 : Int) ≤ n26 ∧ n26 < (↑k20 : Int)) ∧
 ∃ (s29 : ByteArray),
 ∃ (s30 : ByteArray),
 ∃ (b31 : Bool),
 Reads Tryz.prog (Instr.loadAt (42 : Nat) (Value.pointer (some (p28.add (n26.toNat * (3 : Nat)))))) h27
 (Value.agg (Array.mk [Value.string s29, Value.string s30, Value.bool b31])) ∧
 SVC Tryz.prog
 (Instr.storeAt (42 : Nat) (Value.pointer (some (Addr.mk (Array.size h27) (0 : Nat) none)))
 (Value.agg (Array.mk [Value.string s29, Value.string s30, Value.bool b31])))
 (Array.push h27
 (Obj.cells
 (Array.mk
 [Value.string (ByteArray.mk (Array.mk [])), Value.string (ByteArray.mk (Array.mk [])), Value.bool false])
 (42 : Nat)))
 fun (x32 : Unit) (h33 : Heap) =>
 ∃ (s34 : ByteArray),
 Reads Tryz.prog (Instr.loadAt (9 : Nat) (Value.pointer (some (Addr.mk (Array.size h27) (0 : Nat) none)))) h33
 (Value.string s34) ∧
 ∃ (s35 : ByteArray),
 Reads Tryz.prog
 (Instr.loadAt (9 : Nat) (Value.pointer (some ((Addr.mk (Array.size h27) (0 : Nat) none).add (1 : Nat)))))
 h33 (Value.string s35) ∧
 (64 : Int) ≠ (0 : Int) ∧
 br
 (decide
 (IntKind.i64.wrap
 (n25 +
 IntKind.i64.wrap ((IntKind.i64.wrap ((↑s34.size : Int) + (↑s35.size : Int))).tdiv (64 : Int))) >
 (800 : Int)))
 (R (Value.bool true) h33)
 (I22 b24
 (IntKind.i64.wrap
 (n25 +
 IntKind.i64.wrap ((IntKind.i64.wrap ((↑s34.size : Int) + (↑s35.size : Int))).tdiv (64 : Int))))
 (IntKind.i64.wrap (n26 + (1 : Int))) h33 ∧
 I23 b24
 (IntKind.i64.wrap
 (n25 +
 IntKind.i64.wrap ((IntKind.i64.wrap ((↑s34.size : Int) + (↑s35.size : Int))).tdiv (64 : Int))))
 (IntKind.i64.wrap (n26 + (1 : Int))) h33 <
 I23 b24 n25 n26 h27))
 (I0 b24 n25 (IntKind.i64.wrap (n4 + (1 : Int))) h27 ∧ I1 b24 n25 (IntKind.i64.wrap (n4 + (1 : Int))) h27 < I1 b2 n3 n4 h5)))
 (R (Value.bool (decide ((↑n : Int) > (100 : Int)))) h5)) := by kernel_rfl

theorem vc13Lasts (most : Int) (A : Option Addr) (n c : Nat) (h : Heap) (R : Value → Heap → Prop) :
    vcF Tryz.prog Tryz.f7 109 [] [] [.int .i64 most, .slice A n c] h R =
(HC Tryz.prog (30 : Nat) (Array.mk []) h fun (v0 : Value) (h1 : Heap) =>
 ∃ (b2 : Bool),
 v0 = Value.bool b2 ∧
 br (!b2) (R (Value.bool false) h1)
 (br (decide (most < (1 : Int)) || decide (most > (50 : Int)) || decide ((↑n : Int) > (60 : Int))) (R (Value.bool true) h1)
 (HC Tryz.prog (31 : Nat) (Array.mk [Value.int IntKind.i64 (1 : Int), Value.pointer none, Value.string (ByteArray.mk (Array.mk []))]) h1 fun (v3 : Value) (h4 : Heap) =>
 ∃ (a5 : Option Addr),
 ∃ (n6 : Int),
 v3 = Value.tuple (Array.mk [Value.pointer a5, Value.int IntKind.i64 n6]) ∧
 HC Tryz.prog (32 : Nat) (Array.mk [Value.pointer a5, Value.int IntKind.i64 most]) h4 fun (v7 : Value) (h8 : Heap) =>
 ∃ (a9 : Option Addr),
 v7 = Value.pointer a9 ∧
 ∃ (I10 : Bool → Option Addr → Nat → Nat → Int → Heap → Prop),
 ∃ (I11 : Bool → Option Addr → Nat → Nat → Int → Heap → Nat),
 I10 false none (0 : Nat) (0 : Nat) (0 : Int) h8 ∧
 ∀ (b12 : Bool) (a13 : Option Addr) (k14 k15 : Nat) (n16 : Int) (h17 : Heap),
 I10 b12 a13 k14 k15 n16 h17 →
 br (decide (n16 < (↑n : Int)))
 (∃ (p18 : Addr),
 (A = some p18 ∧ (0 : Int) ≤ n16 ∧ n16 < (↑n : Int)) ∧
 ∃ (s19 : ByteArray),
 Reads Tryz.prog (Instr.loadAt (9 : Nat) (Value.pointer (some (p18.add (n16.toNat * (1 : Nat)))))) h17 (Value.string s19) ∧
 br (decide ((↑s19.size : Int) > (48 : Int))) (R (Value.bool true) h17)
 ((2 : Int) ≠ (0 : Int) ∧
 br (n16.tmod (2 : Int) == (0 : Int))
 (HC Tryz.prog (33 : Nat) (Array.mk [Value.pointer a9, Value.string s19]) h17 fun (v20 : Value) (h21 : Heap) =>
 ∃ (s22 : ByteArray),
 ∃ (b23 : Bool),
 ∃ (n24 : Int),
 v20 = Value.tuple (Array.mk [Value.string s22, Value.bool b23, Value.int IntKind.i64 n24]) ∧
 ∃ (I25 : Option Addr → Nat → Nat → Int → Heap → Prop),
 ∃ (I26 : Option Addr → Nat → Nat → Int → Heap → Nat),
 I25 none (0 : Nat) (0 : Nat) (0 : Int) h21 ∧
 ∀ (a27 : Option Addr) (k28 k29 : Nat) (n30 : Int) (h31 : Heap),
 I25 a27 k28 k29 n30 h31 →
 br (decide (n30 < (↑k14 : Int)))
 (∃ (p32 : Addr),
 (a13 = some p32 ∧ (0 : Int) ≤ n30 ∧ n30 < (↑k14 : Int)) ∧
 ∃ (s33 : ByteArray),
 Reads Tryz.prog (Instr.loadAt (9 : Nat) (Value.pointer (some (p32.add (n30.toNat * (1 : Nat)))))) h31 (Value.string s33) ∧
 br (!s33.toList == s19.toList)
 (SVC Tryz.prog (Instr.buildSlice (54 : Nat) (1 : Nat) (Array.mk [((0 : Nat), Value.string s33)])) h31
 fun (v34 : Value) (h35 : Heap) =>
 ∃ (a36 : Option Addr),
 ∃ (k37 : Nat),
 ∃ (k38 : Nat),
 v34 = Value.slice a36 k37 k38 ∧
 SVC Tryz.prog
 (Builtin.append_ (Array.mk [(54 : Nat), (54 : Nat)]) (54 : Nat)
 (Array.mk [Value.slice a27 k28 k29, Value.slice a36 k37 k38]))
 h35 fun (v39 : Value) (h40 : Heap) =>
 ∃ (a41 : Option Addr),
 ∃ (k42 : Nat),
 ∃ (k43 : Nat),
 v39 = Value.slice a41 k42 k43 ∧
 I25 a41 k42 k43 (IntKind.i64.wrap (n30 + (1 : Int))) h40 ∧
 I26 a41 k42 k43 (IntKind.i64.wrap (n30 + (1 : Int))) h40 < I26 a27 k28 k29 n30 h31)
 (I25 a27 k28 k29 (IntKind.i64.wrap (n30 + (1 : Int))) h31 ∧
 I26 a27 k28 k29 (IntKind.i64.wrap (n30 + (1 : Int))) h31 < I26 a27 k28 k29 n30 h31))
 (SVC Tryz.prog (Instr.buildSlice (54 : Nat) (1 : Nat) (Array.mk [((0 : Nat), Value.string s19)])) h31
 fun (v44 : Value) (h45 : Heap) =>
 ∃ (a46 : Option Addr),
 ∃ (k47 : Nat),
 ∃ (k48 : Nat),
 v44 = Value.slice a46 k47 k48 ∧
 SVC Tryz.prog
 (Builtin.append_ (Array.mk [(54 : Nat), (54 : Nat)]) (54 : Nat)
 (Array.mk [Value.slice a27 k28 k29, Value.slice a46 k47 k48]))
 h45 fun (v49 : Value) (h50 : Heap) =>
 ∃ (a51 : Option Addr),
 ∃ (k52 : Nat),
 ∃ (k53 : Nat),
 v49 = Value.slice a51 k52 k53 ∧
 ∃ (n54 : Int),
 Reads Tryz.prog
 (Builtin.max_ (Array.mk [(3 : Nat), (3 : Nat)]) (3 : Nat)
 (Array.mk
 [Value.int IntKind.i64 (IntKind.i64.wrap ((↑k52 : Int) - most)),
 Value.int IntKind.i64 (0 : Int)]))
 h50 (Value.int IntKind.i64 n54) ∧
 ((0 : Int) ≤ n54 ∧ n54 ≤ (↑k52 : Int) ∧ (↑k52 : Int) ≤ (↑k53 : Int) ∧ (↑k53 : Int) ≤ (↑k53 : Int)) ∧
 I10 b12 (subA a51 n54.toNat k53 (1 : Nat)) (k52 - n54.toNat) (k53 - n54.toNat)
 (IntKind.i64.wrap (n16 + (1 : Int))) h50 ∧
 I11 b12 (subA a51 n54.toNat k53 (1 : Nat)) (k52 - n54.toNat) (k53 - n54.toNat)
 (IntKind.i64.wrap (n16 + (1 : Int))) h50 <
 I11 b12 a13 k14 k15 n16 h17))
 (SVC Tryz.prog
 (Instr.buildSlice (32 : Nat) (1 : Nat)
 (Array.mk [((0 : Nat), Value.agg (Array.mk [Value.string s19, Value.string (ByteArray.mk (Array.mk [(120 : UInt8)])), Value.bool false]))]))
 h17 fun (v55 : Value) (h56 : Heap) =>
 ∃ (a57 : Option Addr),
 ∃ (k58 : Nat),
 ∃ (k59 : Nat),
 v55 = Value.slice a57 k58 k59 ∧
 HC Tryz.prog (34 : Nat) (Array.mk [Value.pointer a9, Value.slice a57 k58 k59]) h56 fun (v60 : Value) (h61 : Heap) =>
 ∃ (n62 : Int),
 v60 = Value.int IntKind.i64 n62 ∧
 ∃ (I63 : Option Addr → Nat → Nat → Int → Heap → Prop),
 ∃ (I64 : Option Addr → Nat → Nat → Int → Heap → Nat),
 I63 none (0 : Nat) (0 : Nat) (0 : Int) h61 ∧
 ∀ (a65 : Option Addr) (k66 k67 : Nat) (n68 : Int) (h69 : Heap),
 I63 a65 k66 k67 n68 h69 →
 br (decide (n68 < (↑k14 : Int)))
 (∃ (p70 : Addr),
 (a13 = some p70 ∧ (0 : Int) ≤ n68 ∧ n68 < (↑k14 : Int)) ∧
 ∃ (s71 : ByteArray),
 Reads Tryz.prog (Instr.loadAt (9 : Nat) (Value.pointer (some (p70.add (n68.toNat * (1 : Nat)))))) h69
 (Value.string s71) ∧
 br (!s71.toList == s19.toList)
 (SVC Tryz.prog (Instr.buildSlice (54 : Nat) (1 : Nat) (Array.mk [((0 : Nat), Value.string s71)])) h69
 fun (v72 : Value) (h73 : Heap) =>
 ∃ (a74 : Option Addr),
 ∃ (k75 : Nat),
 ∃ (k76 : Nat),
 v72 = Value.slice a74 k75 k76 ∧
 SVC Tryz.prog
 (Builtin.append_ (Array.mk [(54 : Nat), (54 : Nat)]) (54 : Nat)
 (Array.mk [Value.slice a65 k66 k67, Value.slice a74 k75 k76]))
 h73 fun (v77 : Value) (h78 : Heap) =>
 ∃ (a79 : Option Addr),
 ∃ (k80 : Nat),
 ∃ (k81 : Nat),
 v77 = Value.slice a79 k80 k81 ∧
 I63 a79 k80 k81 (IntKind.i64.wrap (n68 + (1 : Int))) h78 ∧
 I64 a79 k80 k81 (IntKind.i64.wrap (n68 + (1 : Int))) h78 < I64 a65 k66 k67 n68 h69)
 (I63 a65 k66 k67 (IntKind.i64.wrap (n68 + (1 : Int))) h69 ∧
 I64 a65 k66 k67 (IntKind.i64.wrap (n68 + (1 : Int))) h69 < I64 a65 k66 k67 n68 h69))
 (SVC Tryz.prog (Instr.buildSlice (54 : Nat) (1 : Nat) (Array.mk [((0 : Nat), Value.string s19)])) h69
 fun (v82 : Value) (h83 : Heap) =>
 ∃ (a84 : Option Addr),
 ∃ (k85 : Nat),
 ∃ (k86 : Nat),
 v82 = Value.slice a84 k85 k86 ∧
 SVC Tryz.prog
 (Builtin.append_ (Array.mk [(54 : Nat), (54 : Nat)]) (54 : Nat)
 (Array.mk [Value.slice a65 k66 k67, Value.slice a84 k85 k86]))
 h83 fun (v87 : Value) (h88 : Heap) =>
 ∃ (a89 : Option Addr),
 ∃ (k90 : Nat),
 ∃ (k91 : Nat),
 v87 = Value.slice a89 k90 k91 ∧
 ∃ (n92 : Int),
 Reads Tryz.prog
 (Builtin.max_ (Array.mk [(3 : Nat), (3 : Nat)]) (3 : Nat)
 (Array.mk
 [Value.int IntKind.i64 (IntKind.i64.wrap ((↑k90 : Int) - most)),
 Value.int IntKind.i64 (0 : Int)]))
 h88 (Value.int IntKind.i64 n92) ∧
 ((0 : Int) ≤ n92 ∧
 n92 ≤ (↑k90 : Int) ∧ (↑k90 : Int) ≤ (↑k91 : Int) ∧ (↑k91 : Int) ≤ (↑k91 : Int)) ∧
 I10 b12 (subA a89 n92.toNat k91 (1 : Nat)) (k90 - n92.toNat) (k91 - n92.toNat)
 (IntKind.i64.wrap (n16 + (1 : Int))) h88 ∧
 I11 b12 (subA a89 n92.toNat k91 (1 : Nat)) (k90 - n92.toNat) (k91 - n92.toNat)
 (IntKind.i64.wrap (n16 + (1 : Int))) h88 <
 I11 b12 a13 k14 k15 n16 h17))))
 (HC Tryz.prog (35 : Nat) (Array.mk [Value.pointer a9]) h17 fun (v93 : Value) (h94 : Heap) =>
 ∃ (n95 : Int),
 v93 = Value.int IntKind.i64 n95 ∧
 ∃ (I96 : Bool → Int → Heap → Prop),
 ∃ (I97 : Bool → Int → Heap → Nat),
 I96 b12 (0 : Int) h94 ∧
 ∀ (b98 : Bool) (n99 : Int) (h100 : Heap),
 I96 b98 n99 h100 →
 br (decide (n99 < (↑k14 : Int)))
 (∃ (p101 : Addr),
 (a13 = some p101 ∧ (0 : Int) ≤ n99 ∧ n99 < (↑k14 : Int)) ∧
 ∃ (s102 : ByteArray),
 Reads Tryz.prog (Instr.loadAt (9 : Nat) (Value.pointer (some (p101.add (n99.toNat * (1 : Nat)))))) h100 (Value.string s102) ∧
 HC Tryz.prog (33 : Nat) (Array.mk [Value.pointer a9, Value.string s102]) h100 fun (v103 : Value) (h104 : Heap) =>
 ∃ (s105 : ByteArray),
 ∃ (b106 : Bool),
 ∃ (n107 : Int),
 v103 = Value.tuple (Array.mk [Value.string s105, Value.bool b106, Value.int IntKind.i64 n107]) ∧
 HC Tryz.prog (35 : Nat) (Array.mk [Value.pointer a9]) h104 fun (v108 : Value) (h109 : Heap) =>
 ∃ (n110 : Int),
 v108 = Value.int IntKind.i64 n110 ∧
 br (n110 != IntKind.i64.wrap (IntKind.i64.wrap (n95 + n99) + (1 : Int))) (R (Value.bool false) h109)
 (I96 b98 (IntKind.i64.wrap (n99 + (1 : Int))) h109 ∧
 I97 b98 (IntKind.i64.wrap (n99 + (1 : Int))) h109 < I97 b98 n99 h100))
 (HC Tryz.prog (36 : Nat) (Array.mk [Value.pointer a9]) h100 fun (v111 : Value) (h112 : Heap) =>
 ∃ (n113 : Int), v111 = Value.int IntKind.i64 n113 ∧ R (Value.bool (n113 == (↑k14 : Int))) h112))))) := by kernel_rfl

theorem vc13Bounds (most : Int) (A : Option Addr) (n c : Nat) (key : ByteArray) (h : Heap) (R : Value → Heap → Prop) :
    vcF Tryz.prog Tryz.f8 98 [] [] [.int .i64 most, .slice A n c, .string key] h R =
(HC Tryz.prog (30 : Nat) (Array.mk []) h fun (v0 : Value) (h1 : Heap) =>
 ∃ (b2 : Bool),
 v0 = Value.bool b2 ∧
 br (!b2) (R (Value.bool false) h1)
 (HC Tryz.prog (37 : Nat) (Array.mk [Value.slice A n c]) h1 fun (v3 : Value) (h4 : Heap) =>
 ∃ (b5 : Bool),
 v3 = Value.bool b5 ∧
 br (b5 || decide ((↑key.size : Int) > (1024 : Int))) (R (Value.bool true) h4)
 (HC Tryz.prog (31 : Nat) (Array.mk [Value.int IntKind.i64 (1 : Int), Value.pointer none, Value.string (ByteArray.mk (Array.mk []))]) h4 fun (v6 : Value) (h7 : Heap) =>
 ∃ (a8 : Option Addr),
 ∃ (n9 : Int),
 v6 = Value.tuple (Array.mk [Value.pointer a8, Value.int IntKind.i64 n9]) ∧
 HC Tryz.prog (32 : Nat) (Array.mk [Value.pointer a8, Value.int IntKind.i64 most]) h7 fun (v10 : Value) (h11 : Heap) =>
 ∃ (a12 : Option Addr),
 v10 = Value.pointer a12 ∧
 ∃ (I13 : Bool → Int → Heap → Prop),
 ∃ (I14 : Bool → Int → Heap → Nat),
 I13 false (0 : Int) h11 ∧
 ∀ (b15 : Bool) (n16 : Int) (h17 : Heap),
 I13 b15 n16 h17 →
 br (decide (n16 < (↑n : Int)))
 (∃ (p18 : Addr),
 (A = some p18 ∧ (0 : Int) ≤ n16 ∧ n16 < (↑n : Int)) ∧
 ∃ (n19 : Int),
 ∃ (s20 : ByteArray),
 ∃ (n21 : Int),
 ∃ (a22 : Option Addr),
 ∃ (k23 : Nat),
 ∃ (k24 : Nat),
 Reads Tryz.prog (Instr.loadAt (66 : Nat) (Value.pointer (some (p18.add (n16.toNat * (4 : Nat)))))) h17
 (Value.agg (Array.mk [Value.int IntKind.i64 n19, Value.string s20, Value.int IntKind.i64 n21, Value.slice a22 k23 k24])) ∧
 SVC Tryz.prog
 (Instr.storeAt (66 : Nat) (Value.pointer (some (Addr.mk (Array.size h17) (0 : Nat) none)))
 (Value.agg (Array.mk [Value.int IntKind.i64 n19, Value.string s20, Value.int IntKind.i64 n21, Value.slice a22 k23 k24])))
 (Array.push h17
 (Obj.cells
 (Array.mk
 [Value.int IntKind.i64 (0 : Int), Value.string (ByteArray.mk (Array.mk [])), Value.int IntKind.i64 (0 : Int),
 Value.slice none (0 : Nat) (0 : Nat)])
 (66 : Nat)))
 fun (x25 : Unit) (h26 : Heap) =>
 ∃ (n27 : Int),
 Reads Tryz.prog (Instr.loadAt (3 : Nat) (Value.pointer (some (Addr.mk (Array.size h17) (0 : Nat) none)))) h26
 (Value.int IntKind.i64 n27) ∧
 br (n27 == (0 : Int))
 (∃ (s28 : ByteArray),
 Reads Tryz.prog (Instr.loadAt (9 : Nat) (Value.pointer (some ((Addr.mk (Array.size h17) (0 : Nat) none).add (1 : Nat))))) h26
 (Value.string s28) ∧
 HC Tryz.prog (33 : Nat) (Array.mk [Value.pointer a12, Value.string s28]) h26 fun (v29 : Value) (h30 : Heap) =>
 ∃ (s31 : ByteArray),
 ∃ (b32 : Bool),
 ∃ (n33 : Int),
 v29 = Value.tuple (Array.mk [Value.string s31, Value.bool b32, Value.int IntKind.i64 n33]) ∧
 HC Tryz.prog (36 : Nat) (Array.mk [Value.pointer a12]) h30 fun (v34 : Value) (h35 : Heap) =>
 ∃ (n36 : Int),
 v34 = Value.int IntKind.i64 n36 ∧
 ∃ (n37 : Int),
 Reads Tryz.prog
 (Builtin.max_ (Array.mk [(3 : Nat), (3 : Nat)]) (3 : Nat)
 (Array.mk [Value.int IntKind.i64 most, Value.int IntKind.i64 (0 : Int)]))
 h35 (Value.int IntKind.i64 n37) ∧
 br (bif decide (n36 > n37) then false else true)
 (HC Tryz.prog (36 : Nat) (Array.mk [Value.pointer a12]) h35 fun (v38 : Value) (h39 : Heap) =>
 ∃ (n40 : Int),
 v38 = Value.int IntKind.i64 n40 ∧
 br (decide (n40 > (1024 : Int))) (R (Value.bool false) h39)
 (I13 b15 (IntKind.i64.wrap (n16 + (1 : Int))) h39 ∧
 I14 b15 (IntKind.i64.wrap (n16 + (1 : Int))) h39 < I14 b15 n16 h17))
 (R (Value.bool false) h35))
 (br (n27 == (1 : Int))
 (∃ (a41 : Option Addr),
 ∃ (k42 : Nat),
 ∃ (k43 : Nat),
 Reads Tryz.prog (Instr.loadAt (32 : Nat) (Value.pointer (some ((Addr.mk (Array.size h17) (0 : Nat) none).add (3 : Nat)))))
 h26 (Value.slice a41 k42 k43) ∧
 HC Tryz.prog (34 : Nat) (Array.mk [Value.pointer a12, Value.slice a41 k42 k43]) h26 fun (v44 : Value) (h45 : Heap) =>
 ∃ (n46 : Int),
 v44 = Value.int IntKind.i64 n46 ∧
 HC Tryz.prog (36 : Nat) (Array.mk [Value.pointer a12]) h45 fun (v47 : Value) (h48 : Heap) =>
 ∃ (n49 : Int),
 v47 = Value.int IntKind.i64 n49 ∧
 ∃ (n50 : Int),
 Reads Tryz.prog
 (Builtin.max_ (Array.mk [(3 : Nat), (3 : Nat)]) (3 : Nat)
 (Array.mk [Value.int IntKind.i64 most, Value.int IntKind.i64 (0 : Int)]))
 h48 (Value.int IntKind.i64 n50) ∧
 br (bif decide (n49 > n50) then false else true)
 (HC Tryz.prog (36 : Nat) (Array.mk [Value.pointer a12]) h48 fun (v51 : Value) (h52 : Heap) =>
 ∃ (n53 : Int),
 v51 = Value.int IntKind.i64 n53 ∧
 br (decide (n53 > (1024 : Int))) (R (Value.bool false) h52)
 (I13 b15 (IntKind.i64.wrap (n16 + (1 : Int))) h52 ∧
 I14 b15 (IntKind.i64.wrap (n16 + (1 : Int))) h52 < I14 b15 n16 h17))
 (R (Value.bool false) h48))
 (br (n27 == (3 : Int))
 (∃ (n54 : Int),
 Reads Tryz.prog (Instr.loadAt (3 : Nat) (Value.pointer (some ((Addr.mk (Array.size h17) (0 : Nat) none).add (2 : Nat))))) h26
 (Value.int IntKind.i64 n54) ∧
 HC Tryz.prog (38 : Nat) (Array.mk [Value.pointer a12, Value.int IntKind.i64 n54]) h26 fun (v55 : Value) (h56 : Heap) =>
 v55 = Value.tuple (Array.mk []) ∧
 HC Tryz.prog (36 : Nat) (Array.mk [Value.pointer a12]) h56 fun (v57 : Value) (h58 : Heap) =>
 ∃ (n59 : Int),
 v57 = Value.int IntKind.i64 n59 ∧
 ∃ (n60 : Int),
 Reads Tryz.prog
 (Builtin.max_ (Array.mk [(3 : Nat), (3 : Nat)]) (3 : Nat)
 (Array.mk [Value.int IntKind.i64 most, Value.int IntKind.i64 (0 : Int)]))
 h58 (Value.int IntKind.i64 n60) ∧
 br (bif decide (n59 > n60) then false else true)
 (HC Tryz.prog (36 : Nat) (Array.mk [Value.pointer a12]) h58 fun (v61 : Value) (h62 : Heap) =>
 ∃ (n63 : Int),
 v61 = Value.int IntKind.i64 n63 ∧
 br (decide (n63 > (1024 : Int))) (R (Value.bool false) h62)
 (I13 b15 (IntKind.i64.wrap (n16 + (1 : Int))) h62 ∧
 I14 b15 (IntKind.i64.wrap (n16 + (1 : Int))) h62 < I14 b15 n16 h17))
 (R (Value.bool false) h58))
 (HC Tryz.prog (36 : Nat) (Array.mk [Value.pointer a12]) h26 fun (v64 : Value) (h65 : Heap) =>
 ∃ (n66 : Int),
 v64 = Value.int IntKind.i64 n66 ∧
 ∃ (n67 : Int),
 Reads Tryz.prog
 (Builtin.max_ (Array.mk [(3 : Nat), (3 : Nat)]) (3 : Nat)
 (Array.mk [Value.int IntKind.i64 most, Value.int IntKind.i64 (0 : Int)]))
 h65 (Value.int IntKind.i64 n67) ∧
 br (bif decide (n66 > n67) then false else true)
 (HC Tryz.prog (36 : Nat) (Array.mk [Value.pointer a12]) h65 fun (v68 : Value) (h69 : Heap) =>
 ∃ (n70 : Int),
 v68 = Value.int IntKind.i64 n70 ∧
 br (decide (n70 > (1024 : Int))) (R (Value.bool false) h69)
 (I13 b15 (IntKind.i64.wrap (n16 + (1 : Int))) h69 ∧
 I14 b15 (IntKind.i64.wrap (n16 + (1 : Int))) h69 < I14 b15 n16 h17))
 (R (Value.bool false) h65)))))
 (HC Tryz.prog (33 : Nat) (Array.mk [Value.pointer a12, Value.string key]) h17 fun (v71 : Value) (h72 : Heap) =>
 ∃ (s73 : ByteArray),
 ∃ (b74 : Bool),
 ∃ (n75 : Int),
 v71 = Value.tuple (Array.mk [Value.string s73, Value.bool b74, Value.int IntKind.i64 n75]) ∧
 HC Tryz.prog (35 : Nat) (Array.mk [Value.pointer a12]) h72 fun (v76 : Value) (h77 : Heap) =>
 ∃ (n78 : Int),
 v76 = Value.int IntKind.i64 n78 ∧
 HC Tryz.prog (33 : Nat) (Array.mk [Value.pointer a12, Value.string key]) h77 fun (v79 : Value) (h80 : Heap) =>
 ∃ (s81 : ByteArray),
 ∃ (b82 : Bool),
 ∃ (n83 : Int),
 v79 = Value.tuple (Array.mk [Value.string s81, Value.bool b82, Value.int IntKind.i64 n83]) ∧
 HC Tryz.prog (35 : Nat) (Array.mk [Value.pointer a12]) h80 fun (v84 : Value) (h85 : Heap) =>
 ∃ (n86 : Int),
 v84 = Value.int IntKind.i64 n86 ∧
 ∃ (b87 : Bool),
 Reads Tryz.prog
 (eqSem BinOp.neq (4 : Nat) (Operand.tmp (78 : Nat)) (Operand.tmp (80 : Nat))
 (Value.bool (n86 == IntKind.i64.wrap (n78 + (1 : Int)))) (Value.bool (decide (most > (0 : Int)))))
 h85 (Value.bool b87) ∧
 br b87 (R (Value.bool false) h85)
 (HC Tryz.prog (38 : Nat) (Array.mk [Value.pointer a12, Value.int IntKind.i64 (9223372036854775807 : Int)]) h85
 fun (v88 : Value) (h89 : Heap) =>
 v88 = Value.tuple (Array.mk []) ∧
 HC Tryz.prog (35 : Nat) (Array.mk [Value.pointer a12]) h89 fun (v90 : Value) (h91 : Heap) =>
 ∃ (n92 : Int),
 v90 = Value.int IntKind.i64 n92 ∧
 HC Tryz.prog (33 : Nat) (Array.mk [Value.pointer a12, Value.string key]) h91 fun (v93 : Value) (h94 : Heap) =>
 ∃ (s95 : ByteArray),
 ∃ (b96 : Bool),
 ∃ (n97 : Int),
 v93 = Value.tuple (Array.mk [Value.string s95, Value.bool b96, Value.int IntKind.i64 n97]) ∧
 HC Tryz.prog (35 : Nat) (Array.mk [Value.pointer a12]) h94 fun (v98 : Value) (h99 : Heap) =>
 ∃ (n100 : Int),
 v98 = Value.int IntKind.i64 n100 ∧
 br (decide (n100 = n92))
 (HC Tryz.prog (36 : Nat) (Array.mk [Value.pointer a12]) h99
 fun (v101 : Value) (h102 : Heap) =>
 ∃ (n103 : Int),
 v101 = Value.int IntKind.i64 n103 ∧ R (Value.bool (decide (n103 ≤ (1 : Int)))) h102)
 (R (Value.bool false) h99)))))) := by kernel_rfl
end Go.Proofs.YtcihjdalokaokaaGreatDoor
