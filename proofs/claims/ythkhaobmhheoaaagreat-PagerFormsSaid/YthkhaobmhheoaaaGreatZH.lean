/-
  Texts of this seat, laid one behind the other: C1g P1g P2g. Conditions: none.
-/
import Derived.Test.YthkhaobmhheoaaaGreatVcE
import Derived.Test.YthkhaobmhheoaaaGreatProg
import Derived.KernelRfl
section
set_option linter.unusedVariables false
set_option maxRecDepth 100000
namespace Go.Proofs.YthkhaobmhheoaaaGreat
open Go Go.Vc Go.Proofs

theorem vcUint (A : Option Addr) (n c : Nat) (x : Int) (h : Heap) (R : Value → Heap → Prop) :
    vcF Tryz.prog Tryz.f104 26 [] [] [.slice A n c, .int .u64 x] h R =
(((0 : Int) ≤ (↑n : Int) ∧ (↑n : Int) ≤ (↑n : Int) ∧ (↑n : Int) ≤ (↑c : Int)) ∧
 ∃ (I0 : Option Addr → Nat → Nat → Int → Heap → Prop),
 ∃ (I1 : Option Addr → Nat → Nat → Int → Heap → Nat),
 I0 A n n x h ∧
 ∀ (a2 : Option Addr) (k3 k4 : Nat) (n5 : Int) (h6 : Heap),
 I0 a2 k3 k4 n5 h6 →
 br (decide (n5 ≥ (128 : Int)))
 (SVC Tryz.prog
 (Instr.buildSlice (22 : Nat) (1 : Nat)
 (Array.mk [((0 : Nat), Value.int IntKind.u8 (IntKind.u8.wrap (↑(BitVec.ofInt (8 : Nat) (IntKind.u8.wrap n5) ||| BitVec.ofInt (8 : Nat) (128 : Int)).toNat : Int)))]))
 h6 fun (v7 : Value) (h8 : Heap) =>
 ∃ (a9 : Option Addr),
 ∃ (k10 : Nat),
 ∃ (k11 : Nat),
 v7 = Value.slice a9 k10 k11 ∧
 SVC Tryz.prog (Builtin.append_ (Array.mk [(22 : Nat), (22 : Nat)]) (22 : Nat) (Array.mk [Value.slice a2 k3 k4, Value.slice a9 k10 k11])) h8 fun (v12 : Value) (h13 : Heap) =>
 ∃ (a14 : Option Addr),
 ∃ (k15 : Nat),
 ∃ (k16 : Nat),
 v12 = Value.slice a14 k15 k16 ∧
 (0 : Int) ≤ (7 : Int) ∧ I0 a14 k15 k16 (n5.fdiv ((2 : Int) ^ (7 : Nat))) h13 ∧ I1 a14 k15 k16 (n5.fdiv ((2 : Int) ^ (7 : Nat))) h13 < I1 a2 k3 k4 n5 h6)
 (SVC Tryz.prog (Instr.buildSlice (22 : Nat) (1 : Nat) (Array.mk [((0 : Nat), Value.int IntKind.u8 (IntKind.u8.wrap n5))])) h6 fun (v17 : Value) (h18 : Heap) =>
 ∃ (a19 : Option Addr),
 ∃ (k20 : Nat),
 ∃ (k21 : Nat),
 v17 = Value.slice a19 k20 k21 ∧
 SVC Tryz.prog (Builtin.append_ (Array.mk [(22 : Nat), (22 : Nat)]) (22 : Nat) (Array.mk [Value.slice a2 k3 k4, Value.slice a19 k20 k21])) h18 fun (v22 : Value) (h23 : Heap) =>
 ∃ (a24 : Option Addr), ∃ (k25 : Nat), ∃ (k26 : Nat), v22 = Value.slice a24 k25 k26 ∧ R (Value.slice a24 k25 k26) h23)) := by kernel_rfl

theorem vcInt (A : Option Addr) (n c : Nat) (x : Int) (h : Heap) (R : Value → Heap → Prop) :
    vcF Tryz.prog Tryz.f65 14 [] [] [.slice A n c, .int .i64 x] h R =
((0 : Int) ≤ (1 : Int) ∧
 (0 : Int) ≤ (63 : Int) ∧
 HC Tryz.prog (104 : Nat)
 (Array.mk
 [Value.slice A n c,
 Value.int IntKind.u64
 (IntKind.u64.wrap
 (↑(BitVec.ofInt (64 : Nat) (IntKind.u64.wrap (IntKind.i64.wrap (x * (2 : Int) ^ (1 : Nat)))) ^^^ BitVec.ofInt (64 : Nat) (IntKind.u64.wrap (x.fdiv ((2 : Int) ^ (63 : Nat))))).toNat :
 Int))])
 h fun (v0 : Value) (h1 : Heap) => ∃ (a2 : Option Addr), ∃ (k3 : Nat), ∃ (k4 : Nat), v0 = Value.slice a2 k3 k4 ∧ R (Value.slice a2 k3 k4) h1) := by kernel_rfl

theorem vcText (A : Option Addr) (n c : Nat) (s : ByteArray) (h : Heap) (R : Value → Heap → Prop) :
    vcF Tryz.prog Tryz.f68 12 [] [] [.slice A n c, .string s] h R =
(HC Tryz.prog (104 : Nat) (Array.mk [Value.slice A n c, Value.int IntKind.u64 (IntKind.u64.wrap (↑s.size : Int))]) h fun (v0 : Value) (h1 : Heap) =>
 ∃ (a2 : Option Addr),
 ∃ (k3 : Nat),
 ∃ (k4 : Nat),
 v0 = Value.slice a2 k3 k4 ∧
 SVC Tryz.prog (Builtin.append_ (Array.mk [(22 : Nat), (9 : Nat)]) (22 : Nat) (Array.mk [Value.slice a2 k3 k4, Value.string s])) h1 fun (v5 : Value) (h6 : Heap) =>
 ∃ (a7 : Option Addr), ∃ (k8 : Nat), ∃ (k9 : Nat), v5 = Value.slice a7 k8 k9 ∧ R (Value.slice a7 k8 k9) h6) := by kernel_rfl

theorem vcSum (A : Option Addr) (n c : Nat) (h : Heap) (R : Value → Heap → Prop) :
    vcF Tryz.prog Tryz.f108 29 [] [] [.slice A n c] h R =
(∃ (I0 : Int → Int → Heap → Prop),
 ∃ (I1 : Int → Int → Heap → Nat),
 I0 (4294967295 : Int) (0 : Int) h ∧
 ∀ (n2 n3 : Int) (h4 : Heap),
 I0 n2 n3 h4 →
 br (decide (n3 < (↑n : Int)))
 (∃ (p5 : Addr),
 (A = some p5 ∧ (0 : Int) ≤ n3 ∧ n3 < (↑n : Int)) ∧
 ∃ (n6 : Int),
 Reads Tryz.prog (Instr.loadAt (5 : Nat) (Value.pointer (some (p5.add (n3.toNat * (1 : Nat)))))) h4 (Value.int IntKind.u8 n6) ∧
 ∃ (I7 : Int → Int → Heap → Prop),
 ∃ (I8 : Int → Int → Heap → Nat),
 I7 (IntKind.u32.wrap (↑(BitVec.ofInt (32 : Nat) n2 ^^^ BitVec.ofInt (32 : Nat) (IntKind.u32.wrap n6)).toNat : Int)) (0 : Int) h4 ∧
 ∀ (n9 n10 : Int) (h11 : Heap),
 I7 n9 n10 h11 →
 br (decide (n10 < (8 : Int)))
 ((0 : Int) ≤ (1 : Int) ∧
 I7
 (IntKind.u32.wrap
 (↑(BitVec.ofInt (32 : Nat) (n9.fdiv ((2 : Int) ^ (1 : Nat))) ^^^
 BitVec.ofInt (32 : Nat)
 (IntKind.u32.wrap
 (↑(BitVec.ofInt (32 : Nat) (2197175160 : Int) &&&
 BitVec.ofInt (32 : Nat)
 (IntKind.u32.wrap
 ((0 : Int) - IntKind.u32.wrap (↑(BitVec.ofInt (32 : Nat) n9 &&& BitVec.ofInt (32 : Nat) (1 : Int)).toNat : Int)))).toNat :
 Int))).toNat :
 Int))
 (IntKind.i64.wrap (n10 + (1 : Int))) h11 ∧
 I8
 (IntKind.u32.wrap
 (↑(BitVec.ofInt (32 : Nat) (n9.fdiv ((2 : Int) ^ (1 : Nat))) ^^^
 BitVec.ofInt (32 : Nat)
 (IntKind.u32.wrap
 (↑(BitVec.ofInt (32 : Nat) (2197175160 : Int) &&&
 BitVec.ofInt (32 : Nat)
 (IntKind.u32.wrap
 ((0 : Int) - IntKind.u32.wrap (↑(BitVec.ofInt (32 : Nat) n9 &&& BitVec.ofInt (32 : Nat) (1 : Int)).toNat : Int)))).toNat :
 Int))).toNat :
 Int))
 (IntKind.i64.wrap (n10 + (1 : Int))) h11 <
 I8 n9 n10 h11)
 (I0 n9 (IntKind.i64.wrap (n3 + (1 : Int))) h11 ∧ I1 n9 (IntKind.i64.wrap (n3 + (1 : Int))) h11 < I1 n2 n3 h4))
 (R (Value.int IntKind.u32 (IntKind.u32.wrap (↑(BitVec.ofInt (32 : Nat) (Int.ofNat (4294967295 : Nat)) ^^^ BitVec.ofInt (32 : Nat) n2).toNat : Int))) h4)) := by kernel_rfl

theorem vcFput (A : Option Addr) (n c : Nat) (s : ByteArray) (h : Heap) (R : Value → Heap → Prop) :
    vcF Tryz.prog Tryz.f69 33 [] [] [.slice A n c, .string s] h R =
(HC Tryz.prog (68 : Nat) (Array.mk [Value.slice none (0 : Nat) (0 : Nat), Value.string s]) h fun (v0 : Value) (h1 : Heap) =>
 ∃ (a2 : Option Addr),
 ∃ (k3 : Nat),
 ∃ (k4 : Nat),
 v0 = Value.slice a2 k3 k4 ∧
 HC Tryz.prog (108 : Nat) (Array.mk [Value.slice a2 k3 k4]) h1 fun (v5 : Value) (h6 : Heap) =>
 ∃ (n7 : Int),
 v5 = Value.int IntKind.u32 n7 ∧
 (0 : Int) ≤ (8 : Int) ∧
 (0 : Int) ≤ (16 : Int) ∧
 (0 : Int) ≤ (24 : Int) ∧
 SVC Tryz.prog
 (Instr.buildSlice (22 : Nat) (4 : Nat)
 (Array.mk
 [((0 : Nat), Value.int IntKind.u8 (IntKind.u8.wrap n7)), ((1 : Nat), Value.int IntKind.u8 (IntKind.u8.wrap (n7.fdiv ((2 : Int) ^ (8 : Nat))))),
 ((2 : Nat), Value.int IntKind.u8 (IntKind.u8.wrap (n7.fdiv ((2 : Int) ^ (16 : Nat))))),
 ((3 : Nat), Value.int IntKind.u8 (IntKind.u8.wrap (n7.fdiv ((2 : Int) ^ (24 : Nat)))))]))
 h6 fun (v8 : Value) (h9 : Heap) =>
 ∃ (a10 : Option Addr),
 ∃ (k11 : Nat),
 ∃ (k12 : Nat),
 v8 = Value.slice a10 k11 k12 ∧
 SVC Tryz.prog (Builtin.append_ (Array.mk [(22 : Nat), (22 : Nat)]) (22 : Nat) (Array.mk [Value.slice a2 k3 k4, Value.slice a10 k11 k12])) h9
 fun (v13 : Value) (h14 : Heap) =>
 ∃ (a15 : Option Addr),
 ∃ (k16 : Nat),
 ∃ (k17 : Nat),
 v13 = Value.slice a15 k16 k17 ∧
 ((0 : Int) ≤ (↑n : Int) ∧ (↑n : Int) ≤ (↑n : Int) ∧ (↑n : Int) ≤ (↑c : Int)) ∧
 SVC Tryz.prog (Builtin.append_ (Array.mk [(22 : Nat), (22 : Nat)]) (22 : Nat) (Array.mk [Value.slice A n n, Value.slice a15 k16 k17])) h14
 fun (v18 : Value) (h19 : Heap) => ∃ (a20 : Option Addr), ∃ (k21 : Nat), ∃ (k22 : Nat), v18 = Value.slice a20 k21 k22 ∧ R (Value.slice a20 k21 k22) h19) := by kernel_rfl

theorem vcChunk (A : Option Addr) (n c : Nat) (k : Int) (h : Heap) (R : Value → Heap → Prop) :
    vcF Tryz.prog Tryz.f70 9 [] [] [.slice A n c, .int .i64 k] h R =
(∃ (n0 : Int),
 Reads Tryz.prog (Instr.loadAt (3 : Nat) (Value.pointer (some (Addr.mk (Array.push h (Obj.cells (Array.mk [Value.slice A n c]) (22 : Nat))).size (0 : Nat) none))))
 ((Array.push h (Obj.cells (Array.mk [Value.slice A n c]) (22 : Nat))).push (Obj.cells (Array.mk [Value.int IntKind.i64 k]) (3 : Nat))) (Value.int IntKind.i64 n0) ∧
 br (decide (n0 < (1 : Int))) False
 (R
 (Value.func (Fn.func (109 : Nat)) (Array.mk [])
 (Array.mk
 [Value.pointer (some (Addr.mk (Array.size h) (0 : Nat) none)), Value.pointer (some (Addr.mk (Array.push h (Obj.cells (Array.mk [Value.slice A n c]) (22 : Nat))).size (0 : Nat) none))]))
 ((Array.push h (Obj.cells (Array.mk [Value.slice A n c]) (22 : Nat))).push (Obj.cells (Array.mk [Value.int IntKind.i64 k]) (3 : Nat))))) := by kernel_rfl

theorem vcRUint (x : Int) (h : Heap) (R : Value → Heap → Prop) :
    vcF Tryz.prog Tryz.f83 19 [] [] [.int .u64 x] h R =
(br (decide (x < (128 : Int)))
 (SVC Tryz.prog (Instr.buildSlice (22 : Nat) (1 : Nat) (Array.mk [((0 : Nat), Value.int IntKind.u8 (IntKind.u8.wrap x))])) h fun (v0 : Value) (h1 : Heap) =>
 ∃ (a2 : Option Addr),
 ∃ (k3 : Nat), ∃ (k4 : Nat), v0 = Value.slice a2 k3 k4 ∧ ∃ (s5 : ByteArray), Reads Tryz.prog (convert (22 : Nat) (9 : Nat) (Value.slice a2 k3 k4)) h1 (Value.string s5) ∧ R (Value.string s5) h1)
 (∃ (I6 : Heap → Prop),
 I6 h ∧
 (128 : Int) ≠ (0 : Int) ∧
 (128 : Int) ≠ (0 : Int) ∧
 (SVC Tryz.prog (Instr.buildSlice (22 : Nat) (1 : Nat) (Array.mk [((0 : Nat), Value.int IntKind.u8 (IntKind.u8.wrap (IntKind.u64.wrap ((128 : Int) + x.tmod (128 : Int)))))])) h
 fun (v7 : Value) (h8 : Heap) =>
 ∃ (a9 : Option Addr),
 ∃ (k10 : Nat),
 ∃ (k11 : Nat),
 v7 = Value.slice a9 k10 k11 ∧
 I6 h8 ∧
 ∃ (s12 : ByteArray),
 (∀ (h13 : Heap), I6 h13 → Reads Tryz.prog (convert (22 : Nat) (9 : Nat) (Value.slice a9 k10 k11)) h13 (Value.string s12)) ∧
 HC Tryz.prog (83 : Nat) (Array.mk [Value.int IntKind.u64 (IntKind.u64.wrap (x.tdiv (128 : Int)))]) h8 fun (v14 : Value) (h15 : Heap) =>
 ∃ (s16 : ByteArray), v14 = Value.string s16 ∧ I6 h15 ∧ (↑(s12.size + s16.size) : Int) ≤ IntKind.i64.max ∧ R (Value.string (s12 ++ s16)) h15) ∧
 HC Tryz.prog (83 : Nat) (Array.mk [Value.int IntKind.u64 (IntKind.u64.wrap (x.tdiv (128 : Int)))]) h fun (v17 : Value) (h18 : Heap) =>
 ∃ (s19 : ByteArray),
 v17 = Value.string s19 ∧
 I6 h18 ∧
 SVC Tryz.prog (Instr.buildSlice (22 : Nat) (1 : Nat) (Array.mk [((0 : Nat), Value.int IntKind.u8 (IntKind.u8.wrap (IntKind.u64.wrap ((128 : Int) + x.tmod (128 : Int)))))])) h18
 fun (v20 : Value) (h21 : Heap) =>
 ∃ (a22 : Option Addr),
 ∃ (k23 : Nat),
 ∃ (k24 : Nat),
 v20 = Value.slice a22 k23 k24 ∧
 I6 h21 ∧
 ∃ (s25 : ByteArray),
 (∀ (h26 : Heap), I6 h26 → Reads Tryz.prog (convert (22 : Nat) (9 : Nat) (Value.slice a22 k23 k24)) h26 (Value.string s25)) ∧
 (↑(s25.size + s19.size) : Int) ≤ IntKind.i64.max ∧ R (Value.string (s25 ++ s19)) h21)) := by kernel_rfl

theorem vcRInt (x : Int) (h : Heap) (R : Value → Heap → Prop) :
    vcF Tryz.prog Tryz.f49 16 [] [] [.int .i64 x] h R =
(br (decide (x ≥ (0 : Int)))
 (HC Tryz.prog (83 : Nat) (Array.mk [Value.int IntKind.u64 (IntKind.u64.wrap ((2 : Int) * IntKind.u64.wrap x))]) h fun (v0 : Value) (h1 : Heap) =>
 ∃ (s2 : ByteArray), v0 = Value.string s2 ∧ R (Value.string s2) h1)
 (HC Tryz.prog (83 : Nat)
 (Array.mk [Value.int IntKind.u64 (IntKind.u64.wrap (IntKind.u64.wrap ((2 : Int) * IntKind.u64.wrap (IntKind.i64.wrap ((0 : Int) - IntKind.i64.wrap (x + (1 : Int))))) + (1 : Int)))]) h
 fun (v3 : Value) (h4 : Heap) => ∃ (s5 : ByteArray), v3 = Value.string s5 ∧ R (Value.string s5) h4)) := by kernel_rfl

theorem vcRText (s : ByteArray) (h : Heap) (R : Value → Heap → Prop) :
    vcF Tryz.prog Tryz.f47 9 [] [] [.string s] h R =
(HC Tryz.prog (83 : Nat) (Array.mk [Value.int IntKind.u64 (IntKind.u64.wrap (↑s.size : Int))]) h fun (v0 : Value) (h1 : Heap) =>
 ∃ (s2 : ByteArray), v0 = Value.string s2 ∧ (↑(s2.size + s.size) : Int) ≤ IntKind.i64.max ∧ R (Value.string (s2 ++ s)) h1) := by kernel_rfl

theorem vcRSum (s : ByteArray) (h : Heap) (R : Value → Heap → Prop) :
    vcF Tryz.prog Tryz.f48 37 [] [] [.string s] h R =
(∃ (I0 : Int → Int → Heap → Prop),
 ∃ (I1 : Int → Int → Heap → Nat),
 I0 (4294967295 : Int) (0 : Int) h ∧
 ∀ (n2 n3 : Int) (h4 : Heap),
 I0 n2 n3 h4 →
 br (decide (n3 < (↑s.size : Int)))
 (∃ (I5 : Int → Int → Heap → Prop),
 ∃ (I6 : Int → Int → Heap → Nat),
 I5 n2 (0 : Int) h4 ∧
 ∀ (n7 n8 : Int) (h9 : Heap),
 I5 n7 n8 h9 →
 br (decide (n8 < (8 : Int)))
 ((2 : Int) ≠ (0 : Int) ∧
 ((0 : Int) ≤ n3 ∧ n3 < (↑s.size : Int)) ∧
 (0 : Int) ≤ IntKind.u64.wrap n8 ∧
 (2 : Int) ≠ (0 : Int) ∧
 br (((byteAt s n3).fdiv ((2 : Int) ^ min (IntKind.u64.wrap n8).toNat (8 : Nat))).tmod (2 : Int) == (1 : Int))
 ((2 : Int) ≠ (0 : Int) ∧
 br (!n7.tmod (2 : Int) == (1 : Int))
 (I5 (IntKind.u32.wrap (↑(BitVec.ofInt (32 : Nat) (IntKind.u32.wrap (n7.tdiv (2 : Int))) ^^^ BitVec.ofInt (32 : Nat) (2197175160 : Int)).toNat : Int))
 (IntKind.i64.wrap (n8 + (1 : Int))) h9 ∧
 I6 (IntKind.u32.wrap (↑(BitVec.ofInt (32 : Nat) (IntKind.u32.wrap (n7.tdiv (2 : Int))) ^^^ BitVec.ofInt (32 : Nat) (2197175160 : Int)).toNat : Int))
 (IntKind.i64.wrap (n8 + (1 : Int))) h9 <
 I6 n7 n8 h9)
 (I5 (IntKind.u32.wrap (n7.tdiv (2 : Int))) (IntKind.i64.wrap (n8 + (1 : Int))) h9 ∧
 I6 (IntKind.u32.wrap (n7.tdiv (2 : Int))) (IntKind.i64.wrap (n8 + (1 : Int))) h9 < I6 n7 n8 h9))
 ((2 : Int) ≠ (0 : Int) ∧
 br (n7.tmod (2 : Int) == (1 : Int))
 (I5 (IntKind.u32.wrap (↑(BitVec.ofInt (32 : Nat) (IntKind.u32.wrap (n7.tdiv (2 : Int))) ^^^ BitVec.ofInt (32 : Nat) (2197175160 : Int)).toNat : Int))
 (IntKind.i64.wrap (n8 + (1 : Int))) h9 ∧
 I6 (IntKind.u32.wrap (↑(BitVec.ofInt (32 : Nat) (IntKind.u32.wrap (n7.tdiv (2 : Int))) ^^^ BitVec.ofInt (32 : Nat) (2197175160 : Int)).toNat : Int))
 (IntKind.i64.wrap (n8 + (1 : Int))) h9 <
 I6 n7 n8 h9)
 (I5 (IntKind.u32.wrap (n7.tdiv (2 : Int))) (IntKind.i64.wrap (n8 + (1 : Int))) h9 ∧
 I6 (IntKind.u32.wrap (n7.tdiv (2 : Int))) (IntKind.i64.wrap (n8 + (1 : Int))) h9 < I6 n7 n8 h9)))
 (I0 n7 (IntKind.i64.wrap (n3 + (1 : Int))) h9 ∧ I1 n7 (IntKind.i64.wrap (n3 + (1 : Int))) h9 < I1 n2 n3 h4))
 (R (Value.int IntKind.u32 (IntKind.u32.wrap ((4294967295 : Int) - n2))) h4)) := by kernel_rfl

theorem vcRFrame (s : ByteArray) (h : Heap) (R : Value → Heap → Prop) :
    vcF Tryz.prog Tryz.f13 24 [] [] [.string s] h R =
(HC Tryz.prog (47 : Nat) (Array.mk [Value.string s]) h fun (v0 : Value) (h1 : Heap) =>
 ∃ (s2 : ByteArray),
 v0 = Value.string s2 ∧
 HC Tryz.prog (48 : Nat) (Array.mk [Value.string s2]) h1 fun (v3 : Value) (h4 : Heap) =>
 ∃ (n5 : Int),
 v3 = Value.int IntKind.u32 n5 ∧
 (256 : Int) ≠ (0 : Int) ∧
 (65536 : Int) ≠ (0 : Int) ∧
 (16777216 : Int) ≠ (0 : Int) ∧
 SVC Tryz.prog
 (Instr.buildSlice (22 : Nat) (4 : Nat)
 (Array.mk
 [((0 : Nat), Value.int IntKind.u8 (IntKind.u8.wrap n5)), ((1 : Nat), Value.int IntKind.u8 (IntKind.u8.wrap (IntKind.u32.wrap (n5.tdiv (256 : Int))))),
 ((2 : Nat), Value.int IntKind.u8 (IntKind.u8.wrap (IntKind.u32.wrap (n5.tdiv (65536 : Int))))),
 ((3 : Nat), Value.int IntKind.u8 (IntKind.u8.wrap (IntKind.u32.wrap (n5.tdiv (16777216 : Int)))))]))
 h4 fun (v6 : Value) (h7 : Heap) =>
 ∃ (a8 : Option Addr),
 ∃ (k9 : Nat),
 ∃ (k10 : Nat),
 v6 = Value.slice a8 k9 k10 ∧
 ∃ (s11 : ByteArray),
 Reads Tryz.prog (convert (22 : Nat) (9 : Nat) (Value.slice a8 k9 k10)) h7 (Value.string s11) ∧
 (↑(s2.size + s11.size) : Int) ≤ IntKind.i64.max ∧ R (Value.string (s2 ++ s11)) h7) := by kernel_rfl

theorem vcRecord (A : Option Addr) (n c : Nat) (h : Heap) (R : Value → Heap → Prop) :
    vcF Tryz.prog Tryz.f14 26 [] [] [.slice A n c] h R =
(HC Tryz.prog (49 : Nat) (Array.mk [Value.int IntKind.i64 (↑n : Int)]) h fun (v0 : Value) (h1 : Heap) =>
 ∃ (s2 : ByteArray),
 v0 = Value.string s2 ∧
 ∃ (I3 : ByteArray → Int → Heap → Prop),
 ∃ (I4 : ByteArray → Int → Heap → Nat),
 I3 s2 (0 : Int) h1 ∧
 ∀ (s5 : ByteArray) (n6 : Int) (h7 : Heap),
 I3 s5 n6 h7 →
 br (decide (n6 < (↑n : Int)))
 (∃ (p8 : Addr),
 (A = some p8 ∧ (0 : Int) ≤ n6 ∧ n6 < (↑n : Int)) ∧
 ∃ (n9 : Int),
 ∃ (s10 : ByteArray),
 Reads Tryz.prog (Instr.loadAt (27 : Nat) (Value.pointer (some (p8.add (n6.toNat * (2 : Nat)))))) h7 (Value.agg (Array.mk [Value.int IntKind.i64 n9, Value.string s10])) ∧
 SVC Tryz.prog (Instr.storeAt (27 : Nat) (Value.pointer (some (Addr.mk (Array.size h7) (0 : Nat) none))) (Value.agg (Array.mk [Value.int IntKind.i64 n9, Value.string s10])))
 (Array.push h7 (Obj.cells (Array.mk [Value.int IntKind.i64 (0 : Int), Value.string (ByteArray.mk (Array.mk []))]) (27 : Nat))) fun (x11 : Unit) (h12 : Heap) =>
 ∃ (I13 : Heap → Prop),
 I13 h12 ∧
 ∃ (n14 : Int),
 Reads Tryz.prog (Instr.loadAt (3 : Nat) (Value.pointer (some (Addr.mk (Array.size h7) (0 : Nat) none)))) h12 (Value.int IntKind.i64 n14) ∧
 HC Tryz.prog (49 : Nat) (Array.mk [Value.int IntKind.i64 n14]) h12 fun (v15 : Value) (h16 : Heap) =>
 ∃ (s17 : ByteArray),
 v15 = Value.string s17 ∧
 I13 h16 ∧
 (↑(s5.size + s17.size) : Int) ≤ IntKind.i64.max ∧
 ∃ (s18 : ByteArray),
 (∀ (h19 : Heap),
 I13 h19 →
 Reads Tryz.prog (Instr.loadAt (9 : Nat) (Value.pointer (some ((Addr.mk (Array.size h7) (0 : Nat) none).add (1 : Nat))))) h19
 (Value.string s18)) ∧
 HC Tryz.prog (47 : Nat) (Array.mk [Value.string s18]) h16 fun (v20 : Value) (h21 : Heap) =>
 ∃ (s22 : ByteArray),
 v20 = Value.string s22 ∧
 (↑((s5 ++ s17).size + s22.size) : Int) ≤ IntKind.i64.max ∧
 I3 (s5 ++ s17 ++ s22) (IntKind.i64.wrap (n6 + (1 : Int))) h21 ∧ I4 (s5 ++ s17 ++ s22) (IntKind.i64.wrap (n6 + (1 : Int))) h21 < I4 s5 n6 h7)
 (R (Value.string s5) h7)) := by kernel_rfl

theorem vcFilled (s : ByteArray) (h : Heap) (R : Value → Heap → Prop) :
    vcF Tryz.prog Tryz.f12 10 [] [] [.string s] h R =
(SVC Tryz.prog (Instr.makeSlice (22 : Nat) (Value.int IntKind.i64 (IntKind.i64.wrap ((512 : Int) - (↑s.size : Int)))) (Value.int IntKind.i64 (IntKind.i64.wrap ((512 : Int) - (↑s.size : Int))))) h
 fun (v0 : Value) (h1 : Heap) =>
 ∃ (a2 : Option Addr),
 ∃ (k3 : Nat),
 ∃ (k4 : Nat),
 v0 = Value.slice a2 k3 k4 ∧
 ∃ (s5 : ByteArray), Reads Tryz.prog (convert (22 : Nat) (9 : Nat) (Value.slice a2 k3 k4)) h1 (Value.string s5) ∧ (↑(s.size + s5.size) : Int) ≤ IntKind.i64.max ∧ R (Value.string (s ++ s5)) h1) := by kernel_rfl

theorem vcLaid (A : Option Addr) (n c : Nat) (B : Option Addr) (m d : Nat) (h : Heap) (R : Value → Heap → Prop) :
    vcF Tryz.prog Tryz.f26 34 [] [] [.slice A n c, .slice B m d] h R =
(SVC Tryz.prog (Instr.buildSlice (25 : Nat) (0 : Nat) (Array.mk [])) h fun (v0 : Value) (h1 : Heap) =>
 ∃ (a2 : Option Addr),
 ∃ (k3 : Nat),
 ∃ (k4 : Nat),
 v0 = Value.slice a2 k3 k4 ∧
 SVC Tryz.prog (Builtin.append_ (Array.mk [(25 : Nat), (25 : Nat)]) (25 : Nat) (Array.mk [Value.slice a2 k3 k4, Value.slice A n c])) h1 fun (v5 : Value) (h6 : Heap) =>
 ∃ (a7 : Option Addr),
 ∃ (k8 : Nat),
 ∃ (k9 : Nat),
 v5 = Value.slice a7 k8 k9 ∧
 ∃ (I10 : Option Addr → Nat → Nat → Int → Heap → Prop),
 ∃ (I11 : Option Addr → Nat → Nat → Int → Heap → Nat),
 I10 a7 k8 k9 (0 : Int) h6 ∧
 ∀ (a12 : Option Addr) (k13 k14 : Nat) (n15 : Int) (h16 : Heap),
 I10 a12 k13 k14 n15 h16 →
 br (decide (n15 < (↑m : Int)))
 (∃ (p17 : Addr),
 (B = some p17 ∧ (0 : Int) ≤ n15 ∧ n15 < (↑m : Int)) ∧
 ∃ (n18 : Int),
 ∃ (s19 : ByteArray),
 Reads Tryz.prog (Instr.loadAt (27 : Nat) (Value.pointer (some (p17.add (n15.toNat * (2 : Nat)))))) h16
 (Value.agg (Array.mk [Value.int IntKind.i64 n18, Value.string s19])) ∧
 SVC Tryz.prog
 (Instr.storeAt (27 : Nat) (Value.pointer (some (Addr.mk (Array.size h16) (0 : Nat) none)))
 (Value.agg (Array.mk [Value.int IntKind.i64 n18, Value.string s19])))
 (Array.push h16 (Obj.cells (Array.mk [Value.int IntKind.i64 (0 : Int), Value.string (ByteArray.mk (Array.mk []))]) (27 : Nat)))
 fun (x20 : Unit) (h21 : Heap) =>
 ∃ (I22 : Option Addr → Nat → Nat → Heap → Prop),
 ∃ (I23 : Option Addr → Nat → Nat → Heap → Nat),
 I22 a12 k13 k14 h21 ∧
 ∀ (a24 : Option Addr) (k25 k26 : Nat) (h27 : Heap),
 I22 a24 k25 k26 h27 →
 ∃ (n28 : Int),
 Reads Tryz.prog (Instr.loadAt (3 : Nat) (Value.pointer (some (Addr.mk (Array.size h16) (0 : Nat) none)))) h27 (Value.int IntKind.i64 n28) ∧
 br (decide ((↑k25 : Int) ≤ n28))
 (SVC Tryz.prog (Instr.buildSlice (25 : Nat) (1 : Nat) (Array.mk [((0 : Nat), Value.string (ByteArray.mk (Array.mk [])))])) h27
 fun (v29 : Value) (h30 : Heap) =>
 ∃ (a31 : Option Addr),
 ∃ (k32 : Nat),
 ∃ (k33 : Nat),
 v29 = Value.slice a31 k32 k33 ∧
 SVC Tryz.prog
 (Builtin.append_ (Array.mk [(25 : Nat), (25 : Nat)]) (25 : Nat) (Array.mk [Value.slice a24 k25 k26, Value.slice a31 k32 k33]))
 h30 fun (v34 : Value) (h35 : Heap) =>
 ∃ (a36 : Option Addr),
 ∃ (k37 : Nat), ∃ (k38 : Nat), v34 = Value.slice a36 k37 k38 ∧ I22 a36 k37 k38 h35 ∧ I23 a36 k37 k38 h35 < I23 a24 k25 k26 h27)
 (∃ (I39 : Heap → Prop),
 I39 h27 ∧
 ∃ (n40 : Int),
 (∀ (h41 : Heap),
 I39 h41 →
 Reads Tryz.prog (Instr.loadAt (3 : Nat) (Value.pointer (some (Addr.mk (Array.size h16) (0 : Nat) none)))) h41
 (Value.int IntKind.i64 n40)) ∧
 ∃ (s42 : ByteArray),
 Reads Tryz.prog (Instr.loadAt (9 : Nat) (Value.pointer (some ((Addr.mk (Array.size h16) (0 : Nat) none).add (1 : Nat))))) h27
 (Value.string s42) ∧
 HC Tryz.prog (12 : Nat) (Array.mk [Value.string s42]) h27 fun (v43 : Value) (h44 : Heap) =>
 ∃ (s45 : ByteArray),
 v43 = Value.string s45 ∧
 I39 h44 ∧
 ∃ (p46 : Addr),
 (a24 = some p46 ∧ (0 : Int) ≤ n40 ∧ n40 < (↑k25 : Int)) ∧
 SVC Tryz.prog (Instr.storeAt (9 : Nat) (Value.pointer (some (p46.add (n40.toNat * (1 : Nat))))) (Value.string s45))
 h44 fun (x47 : Unit) (h48 : Heap) =>
 I10 a24 k25 k26 (IntKind.i64.wrap (n15 + (1 : Int))) h48 ∧
 I11 a24 k25 k26 (IntKind.i64.wrap (n15 + (1 : Int))) h48 < I11 a12 k13 k14 n15 h16))
 (R (Value.slice a12 k13 k14) h16)) := by kernel_rfl
end Go.Proofs.YthkhaobmhheoaaaGreat
end

section
set_option linter.unusedVariables false
set_option maxRecDepth 100000
namespace Go.Proofs.YthkhaobmhheoaaaGreat
open Go Go.Vc Go.Proofs

theorem vcCommit (p : Nat) (m : Option Nat) (h : Heap) (R : Value → Heap → Prop) :
    vcF Tryz.prog Tryz.f27 116 [24,25] [] [.pointer (some ⟨p, 0, none⟩), .map m] h R =
(∃ (a0 : Option Addr),
 Reads Tryz.prog (Instr.loadAt (36 : Nat) (Value.pointer (some (Addr.mk (Array.size h) (0 : Nat) none))))
 ((Array.push h (Obj.cells (Array.mk [Value.pointer (some (Addr.mk p (0 : Nat) none))]) (36 : Nat))).push (Obj.cells (Array.mk [Value.int IntKind.i64 (0 : Int)]) (34 : Nat))) (Value.pointer a0) ∧
 ∃ (b1 : Bool),
 Reads Tryz.prog (eqSem BinOp.eql (36 : Nat) (Operand.tmp (16 : Nat)) (Operand.const (Value.pointer none)) (Value.pointer a0) (Value.pointer none))
 ((Array.push h (Obj.cells (Array.mk [Value.pointer (some (Addr.mk p (0 : Nat) none))]) (36 : Nat))).push (Obj.cells (Array.mk [Value.int IntKind.i64 (0 : Int)]) (34 : Nat)))
 (Value.bool b1) ∧
 br b1
 (SVC Tryz.prog
 (Instr.storeAt (34 : Nat) (Value.pointer (some (Addr.mk (Array.push h (Obj.cells (Array.mk [Value.pointer (some (Addr.mk p (0 : Nat) none))]) (36 : Nat))).size (0 : Nat) none)))
 (Value.int IntKind.i64 (2 : Int)))
 ((Array.push h (Obj.cells (Array.mk [Value.pointer (some (Addr.mk p (0 : Nat) none))]) (36 : Nat))).push (Obj.cells (Array.mk [Value.int IntKind.i64 (0 : Int)]) (34 : Nat)))
 fun (x2 : Unit) (h3 : Heap) =>
 ∀ (h4 : Heap),
 Turn h3 h4 →
 ∃ (n5 : Int),
 Reads Tryz.prog (loadVar (34 : Nat) (Addr.mk (Array.push h (Obj.cells (Array.mk [Value.pointer (some (Addr.mk p (0 : Nat) none))]) (36 : Nat))).size (0 : Nat) none)) h4
 (Value.int IntKind.i64 n5) ∧
 R (Value.int IntKind.i64 n5) h4)
 (∃ (a6 : Option Addr),
 Reads Tryz.prog (Instr.loadAt (36 : Nat) (Value.pointer (some (Addr.mk (Array.size h) (0 : Nat) none))))
 ((Array.push h (Obj.cells (Array.mk [Value.pointer (some (Addr.mk p (0 : Nat) none))]) (36 : Nat))).push (Obj.cells (Array.mk [Value.int IntKind.i64 (0 : Int)]) (34 : Nat)))
 (Value.pointer a6) ∧
 ∃ (p7 : Addr),
 a6 = some p7 ∧
 ∃ (a8 : Option Addr),
 Reads Tryz.prog (Instr.loadAt (32 : Nat) (Value.pointer (some p7)))
 ((Array.push h (Obj.cells (Array.mk [Value.pointer (some (Addr.mk p (0 : Nat) none))]) (36 : Nat))).push (Obj.cells (Array.mk [Value.int IntKind.i64 (0 : Int)]) (34 : Nat)))
 (Value.pointer a8) ∧
 HC Tryz.prog (28 : Nat) (Array.mk [Value.pointer a8])
 ((Array.push h (Obj.cells (Array.mk [Value.pointer (some (Addr.mk p (0 : Nat) none))]) (36 : Nat))).push (Obj.cells (Array.mk [Value.int IntKind.i64 (0 : Int)]) (34 : Nat)))
 fun (v9 : Value) (h10 : Heap) =>
 ∃ (b11 : Bool),
 v9 = Value.bool b11 ∧
 br b11
 (SVC Tryz.prog
 (Instr.storeAt (34 : Nat)
 (Value.pointer (some (Addr.mk (Array.push h (Obj.cells (Array.mk [Value.pointer (some (Addr.mk p (0 : Nat) none))]) (36 : Nat))).size (0 : Nat) none)))
 (Value.int IntKind.i64 (8 : Int)))
 h10 fun (x12 : Unit) (h13 : Heap) =>
 ∀ (h14 : Heap),
 Turn h13 h14 →
 ∃ (n15 : Int),
 Reads Tryz.prog
 (loadVar (34 : Nat) (Addr.mk (Array.push h (Obj.cells (Array.mk [Value.pointer (some (Addr.mk p (0 : Nat) none))]) (36 : Nat))).size (0 : Nat) none)) h14
 (Value.int IntKind.i64 n15) ∧
 R (Value.int IntKind.i64 n15) h14)
 (∃ (a16 : Option Addr),
 Reads Tryz.prog (Instr.loadAt (36 : Nat) (Value.pointer (some (Addr.mk (Array.size h) (0 : Nat) none)))) h10 (Value.pointer a16) ∧
 HC Tryz.prog (64 : Nat) (Array.mk [Value.pointer a16, Value.map m]) h10 fun (v17 : Value) (h18 : Heap) =>
 ∃ (n19 : Int),
 ∃ (n20 : Int),
 v17 = Value.tuple (Array.mk [Value.int IntKind.i64 n19, Value.int IntKind.i64 n20]) ∧
 ∃ (n21 : Int),
 ((!n20 != (0 : Int)) = true → Reads Tryz.prog (Builtin.len_ (Array.mk [(48 : Nat)]) (3 : Nat) (Array.mk [Value.map m])) h18 (Value.int IntKind.i64 n21)) ∧
 br (n20 != (0 : Int) || n21 == (0 : Int))
 (SVC Tryz.prog
 (Instr.storeAt (34 : Nat)
 (Value.pointer
 (some (Addr.mk (Array.push h (Obj.cells (Array.mk [Value.pointer (some (Addr.mk p (0 : Nat) none))]) (36 : Nat))).size (0 : Nat) none)))
 (Value.int IntKind.i64 n20))
 h18 fun (x22 : Unit) (h23 : Heap) =>
 ∀ (h24 : Heap),
 Turn h23 h24 →
 ∃ (n25 : Int),
 Reads Tryz.prog
 (loadVar (34 : Nat)
 (Addr.mk (Array.push h (Obj.cells (Array.mk [Value.pointer (some (Addr.mk p (0 : Nat) none))]) (36 : Nat))).size (0 : Nat) none))
 h24 (Value.int IntKind.i64 n25) ∧
 R (Value.int IntKind.i64 n25) h24)
 (∃ (n26 : Int),
 Reads Tryz.prog (Builtin.len_ (Array.mk [(48 : Nat)]) (3 : Nat) (Array.mk [Value.map m])) h18 (Value.int IntKind.i64 n26) ∧
 HC Tryz.prog (65 : Nat) (Array.mk [Value.slice none (0 : Nat) (0 : Nat), Value.int IntKind.i64 n26]) h18 fun (v27 : Value) (h28 : Heap) =>
 ∃ (a29 : Option Addr),
 ∃ (k30 : Nat),
 ∃ (k31 : Nat),
 v27 = Value.slice a29 k30 k31 ∧
 HC Tryz.prog (67 : Nat) (Array.mk [Value.map m]) h28 fun (v32 : Value) (h33 : Heap) =>
 ∃ (v34 : Value),
 v32 = v34 ∧
 HC Tryz.prog (66 : Nat) (Array.mk [v34]) h33 fun (v35 : Value) (h36 : Heap) =>
 ∃ (a37 : Option Addr),
 ∃ (k38 : Nat),
 ∃ (k39 : Nat),
 v35 = Value.slice a37 k38 k39 ∧
 ∃ (I40 : Option Addr → Nat → Nat → Int → Heap → Prop),
 ∃ (I41 : Option Addr → Nat → Nat → Int → Heap → Nat),
 I40 a29 k30 k31 (0 : Int) h36 ∧
 ∀ (a42 : Option Addr) (k43 k44 : Nat) (n45 : Int) (h46 : Heap),
 I40 a42 k43 k44 n45 h46 →
 br (decide (n45 < (↑k38 : Int)))
 (∃ (p47 : Addr),
 (a37 = some p47 ∧ (0 : Int) ≤ n45 ∧ n45 < (↑k38 : Int)) ∧
 ∃ (n48 : Int),
 Reads Tryz.prog (Instr.loadAt (3 : Nat) (Value.pointer (some (p47.add (n45.toNat * (1 : Nat)))))) h46
 (Value.int IntKind.i64 n48) ∧
 ∃ (I49 : Heap → Prop),
 I49 h46 ∧
 HC Tryz.prog (65 : Nat) (Array.mk [Value.slice a42 k43 k44, Value.int IntKind.i64 n48]) h46
 fun (v50 : Value) (h51 : Heap) =>
 ∃ (a52 : Option Addr),
 ∃ (k53 : Nat),
 ∃ (k54 : Nat),
 v50 = Value.slice a52 k53 k54 ∧
 I49 h51 ∧
 ∃ (a55 : Option Addr),
 ∃ (k56 : Nat),
 ∃ (k57 : Nat),
 (∀ (h58 : Heap),
 I49 h58 →
 Reads Tryz.prog
 (Instr.lookup (48 : Nat) (Value.map m) (Value.int IntKind.i64 n48)
 false)
 h58 (Value.slice a55 k56 k57)) ∧
 ∃ (s59 : ByteArray),
 (∀ (h60 : Heap),
 I49 h60 →
 Reads Tryz.prog
 (convert (22 : Nat) (9 : Nat) (Value.slice a55 k56 k57)) h60
 (Value.string s59)) ∧
 HC Tryz.prog (68 : Nat)
 (Array.mk [Value.slice a52 k53 k54, Value.string s59]) h51
 fun (v61 : Value) (h62 : Heap) =>
 ∃ (a63 : Option Addr),
 ∃ (k64 : Nat),
 ∃ (k65 : Nat),
 v61 = Value.slice a63 k64 k65 ∧
 I40 a63 k64 k65 (IntKind.i64.wrap (n45 + (1 : Int))) h62 ∧
 I41 a63 k64 k65 (IntKind.i64.wrap (n45 + (1 : Int))) h62 <
 I41 a42 k43 k44 n45 h46)
 (∃ (s66 : ByteArray),
 Reads Tryz.prog (convert (22 : Nat) (9 : Nat) (Value.slice a42 k43 k44)) h46 (Value.string s66) ∧
 HC Tryz.prog (69 : Nat) (Array.mk [Value.slice none (0 : Nat) (0 : Nat), Value.string s66]) h46
 fun (v67 : Value) (h68 : Heap) =>
 ∃ (a69 : Option Addr),
 ∃ (k70 : Nat),
 ∃ (k71 : Nat),
 v67 = Value.slice a69 k70 k71 ∧
 (512 : Int) ≠ (0 : Int) ∧
 ∃ (a72 : Option Addr),
 Reads Tryz.prog
 (Instr.loadAt (36 : Nat) (Value.pointer (some (Addr.mk (Array.size h) (0 : Nat) none))))
 h68 (Value.pointer a72) ∧
 ∃ (p73 : Addr),
 a72 = some p73 ∧
 ∃ (a74 : Option Addr),
 Reads Tryz.prog (Instr.loadAt (32 : Nat) (Value.pointer (some p73))) h68
 (Value.pointer a74) ∧
 HC Tryz.prog (24 : Nat) (Array.mk [Value.pointer a74]) h68
 fun (v75 : Value) (h76 : Heap) =>
 ∃ (n77 : Int),
 v75 = Value.int IntKind.i64 n77 ∧
 br
 (decide
 (n77 <
 IntKind.i64.wrap
 (IntKind.i64.wrap
 ((IntKind.i64.wrap
 (IntKind.i64.wrap ((↑k70 : Int) + (512 : Int)) -
 (1 : Int))).tdiv
 (512 : Int)) +
 n19)))
 (SVC Tryz.prog
 (Instr.storeAt (34 : Nat)
 (Value.pointer
 (some
 (Addr.mk
 (Array.push h
 (Obj.cells
 (Array.mk
 [Value.pointer (some (Addr.mk p (0 : Nat) none))])
 (36 : Nat))).size
 (0 : Nat) none)))
 (Value.int IntKind.i64 (7 : Int)))
 h76 fun (x78 : Unit) (h79 : Heap) =>
 ∀ (h80 : Heap),
 Turn h79 h80 →
 ∃ (n81 : Int),
 Reads Tryz.prog
 (loadVar (34 : Nat)
 (Addr.mk
 (Array.push h
 (Obj.cells
 (Array.mk
 [Value.pointer (some (Addr.mk p (0 : Nat) none))])
 (36 : Nat))).size
 (0 : Nat) none))
 h80 (Value.int IntKind.i64 n81) ∧
 R (Value.int IntKind.i64 n81) h80)
 (SVC Tryz.prog
 (Instr.storeAt (3 : Nat)
 (Value.pointer (some (Addr.mk (Array.size h76) (0 : Nat) none)))
 (Value.int IntKind.i64 (0 : Int)))
 (Array.push h76
 (Obj.cells (Array.mk [Value.int IntKind.i64 (0 : Int)]) (3 : Nat)))
 fun (x82 : Unit) (h83 : Heap) =>
 ∃ (I84 : Heap → Prop),
 (HC Tryz.prog (70 : Nat)
 (Array.mk
 [Value.slice a69 k70 k71, Value.int IntKind.i64 (512 : Int)])
 h83 fun (v85 : Value) (h86 : Heap) =>
 ∃ (v87 : Value),
 v85 = v87 ∧
 ∃ (x88 : List (Option Addr × Nat × Nat)),
 ∃ (I89 : Heap → Prop),
 ∃ (I90 : Nat → Heap → Prop),
 ∃ (I91 : Heap → Prop),
 Gives Tryz.prog v87 I89 x88 ∧
 (∀ (k92 : Nat) (h93 : Heap),
 I90 k92 h93 → I89 h93) ∧
 (∀ (k94 : Nat) (h95 h96 : Heap),
 I90 k94 h95 → Turn h95 h96 → I90 k94 h96) ∧
 (∀ (h97 h98 : Heap),
 I91 h97 → Turn h97 h98 → I91 h98) ∧
 I90 (0 : Nat) h86 ∧
 (∀ (k99 : Nat) (a100 : Option Addr)
 (k101 k102 : Nat) (h103 : Heap),
 Nth x88 k99 (a100, k101, k102) →
 I90 k99 h103 →
 ∀ (h104 : Heap),
 Turn h103 h104 →
 ∃ (I105 : Heap → Prop),
 (∃ (I106 : Heap → Prop),
 I106 h104 ∧
 ∃ (a107 : Option Addr),
 (∀ (h108 : Heap),
 I106 h108 →
 Reads Tryz.prog
 (Instr.loadAt
 (36 : Nat)
 (Value.pointer
 (some
 (Addr.mk
 (Array.size
 h)
 (0 :
 Nat)
 none))))
 h108
 (Value.pointer
 a107)) ∧
 ∃ (p109 : Addr),
 a107 = some p109 ∧
 ∃ (a110 :
 Option Addr),
 (∀
 (h111 :
 Heap),
 I106
 h111 →
 Reads
 Tryz.prog
 (Instr.loadAt
 (32 :
 Nat)
 (Value.pointer
 (some
 p109)))
 h111
 (Value.pointer
 a110)) ∧
 ∃ (a112 :
 Option
 Addr),
 Reads
 Tryz.prog
 (Instr.loadAt
 (36 :
 Nat)
 (Value.pointer
 (some
 (Addr.mk
 (Array.size
 h)
 (0 :
 Nat)
 none))))
 h104
 (Value.pointer
 a112) ∧
 HC
 Tryz.prog
 (57 :
 Nat)
 (Array.mk
 [Value.pointer
 a112])
 h104
 fun
 (v113 :
 Value)
 (h114 :
 Heap) =>
 ∃
 (s115
 :
 ByteArray),
 v113 =
 Value.string
 s115 ∧
 I106
 h114 ∧
 ∃
 (n116
 :
 Int),
 (∀
 (h117 :
 Heap),
 I106
 h117 →
 Reads
 Tryz.prog
 (Instr.loadAt
 (3 :
 Nat)
 (Value.pointer
 (some
 (Addr.mk
 (Array.size
 h76)
 (0 :
 Nat)
 none))))
 h117
 (Value.int
 IntKind.i64
 n116)) ∧
 HC
 Tryz.prog
 (17 :
 Nat)
 (Array.mk
 [Value.pointer
 a110,
 Value.string
 s115,
 Value.int
 IntKind.i64
 n116,
 Value.slice
 a100
 k101
 k102])
 h114
 fun
 (v118 :
 Value)
 (h119 :
 Heap) =>
 ∃
 (n120
 :
 Int),
 v118 =
 Value.int
 IntKind.i64
 n120 ∧
 br
 (n120 !=
 (0 :
 Int))
 (SVC
 Tryz.prog
 (Instr.storeAt
 (34 :
 Nat)
 (Value.pointer
 (some
 (Addr.mk
 (Array.push
 h
 (Obj.cells
 (Array.mk
 [Value.pointer
 (some
 (Addr.mk
 p
 (0 :
 Nat)
 none))])
 (36 :
 Nat))).size
 (0 :
 Nat)
 none)))
 (Value.int
 IntKind.i64
 n120))
 h119
 fun
 (x121 :
 Unit)
 (h122 :
 Heap) =>
 I91
 h122)
 (I105
 h119)) ∧
 ∀ (h123 : Heap),
 I105 h123 →
 ∃ (n124 : Int),
 Reads Tryz.prog
 (Instr.loadAt
 (3 : Nat)
 (Value.pointer
 (some
 (Addr.mk
 (Array.size
 h76)
 (0 : Nat)
 none))))
 h123
 (Value.int
 IntKind.i64
 n124) ∧
 SVC Tryz.prog
 (Instr.storeAt
 (3 : Nat)
 (Value.pointer
 (some
 (Addr.mk
 (Array.size
 h76)
 (0 : Nat)
 none)))
 (Value.int
 IntKind.i64
 (IntKind.i64.wrap
 (n124 +
 (1 :
 Int)))))
 h123
 fun (x125 : Unit)
 (h126 : Heap) =>
 I90
 (k99 +
 (1 : Nat))
 h126) ∧
 (∀ (h127 : Heap),
 I90 x88.length h127 → I84 h127) ∧
 ∀ (h128 : Heap),
 I91 h128 →
 ∀ (h129 : Heap),
 Turn h128 h129 →
 ∃ (n130 : Int),
 Reads Tryz.prog
 (loadVar (34 : Nat)
 (Addr.mk
 (Array.push h
 (Obj.cells
 (Array.mk
 [Value.pointer
 (some
 (Addr.mk
 p
 (0 :
 Nat)
 none))])
 (36 :
 Nat))).size
 (0 : Nat) none))
 h129
 (Value.int IntKind.i64
 n130) ∧
 R
 (Value.int IntKind.i64
 n130)
 h129) ∧
 ∀ (h131 : Heap),
 I84 h131 →
 ∃ (I132 : Heap → Prop),
 I132 h131 ∧
 ∃ (a133 : Option Addr),
 (∀ (h134 : Heap),
 I132 h134 →
 Reads Tryz.prog
 (Instr.loadAt (36 : Nat)
 (Value.pointer
 (some
 (Addr.mk (Array.size h) (0 : Nat) none))))
 h134 (Value.pointer a133)) ∧
 ∃ (p135 : Addr),
 a133 = some p135 ∧
 ∃ (a136 : Option Addr),
 (∀ (h137 : Heap),
 I132 h137 →
 Reads Tryz.prog
 (Instr.loadAt (32 : Nat)
 (Value.pointer (some p135)))
 h137 (Value.pointer a136)) ∧
 ∃ (a138 : Option Addr),
 Reads Tryz.prog
 (Instr.loadAt (36 : Nat)
 (Value.pointer
 (some
 (Addr.mk (Array.size h) (0 : Nat)
 none))))
 h131 (Value.pointer a138) ∧
 HC Tryz.prog (57 : Nat)
 (Array.mk [Value.pointer a138]) h131
 fun (v139 : Value) (h140 : Heap) =>
 ∃ (s141 : ByteArray),
 v139 = Value.string s141 ∧
 I132 h140 ∧
 HC Tryz.prog (71 : Nat)
 (Array.mk
 [Value.pointer a136,
 Value.string s141])
 h140
 fun (v142 : Value)
 (h143 : Heap) =>
 ∃ (n144 : Int),
 v142 =
 Value.int IntKind.i64 n144 ∧
 br (n144 != (0 : Int))
 (SVC Tryz.prog
 (Instr.storeAt (34 : Nat)
 (Value.pointer
 (some
 (Addr.mk
 (Array.push h
 (Obj.cells
 (Array.mk
 [Value.pointer
 (some
 (Addr.mk
 p
 (0 :
 Nat)
 none))])
 (36 :
 Nat))).size
 (0 : Nat) none)))
 (Value.int IntKind.i64
 n144))
 h143
 fun (x145 : Unit)
 (h146 : Heap) =>
 ∀ (h147 : Heap),
 Turn h146 h147 →
 ∃ (n148 : Int),
 Reads Tryz.prog
 (loadVar
 (34 : Nat)
 (Addr.mk
 (Array.push
 h
 (Obj.cells
 (Array.mk
 [Value.pointer
 (some
 (Addr.mk
 p
 (0 :
 Nat)
 none))])
 (36 :
 Nat))).size
 (0 : Nat)
 none))
 h147
 (Value.int
 IntKind.i64
 n148) ∧
 R
 (Value.int
 IntKind.i64
 n148)
 h147)
 (∃ (I149 : Heap → Prop),
 I149 h143 ∧
 ∃ (a150 : Option Addr),
 (∀ (h151 : Heap),
 I149 h151 →
 Reads Tryz.prog
 (Instr.loadAt
 (36 : Nat)
 (Value.pointer
 (some
 (Addr.mk
 (Array.size
 h)
 (0 :
 Nat)
 none))))
 h151
 (Value.pointer
 a150)) ∧
 ∃ (p152 : Addr),
 a150 = some p152 ∧
 ∃ (a153 :
 Option Addr),
 (∀
 (h154 :
 Heap),
 I149
 h154 →
 Reads
 Tryz.prog
 (Instr.loadAt
 (32 :
 Nat)
 (Value.pointer
 (some
 p152)))
 h154
 (Value.pointer
 a153)) ∧
 ∃ (a155 :
 Option
 Addr),
 Reads
 Tryz.prog
 (Instr.loadAt
 (36 :
 Nat)
 (Value.pointer
 (some
 (Addr.mk
 (Array.size
 h)
 (0 :
 Nat)
 none))))
 h143
 (Value.pointer
 a155) ∧
 HC
 Tryz.prog
 (57 :
 Nat)
 (Array.mk
 [Value.pointer
 a155])
 h143
 fun
 (v156 :
 Value)
 (h157 :
 Heap) =>
 ∃
 (s158
 :
 ByteArray),
 v156 =
 Value.string
 s158 ∧
 I149
 h157 ∧
 ∃
 (a159
 :
 Option
 Addr),
 (∀
 (h160 :
 Heap),
 I149
 h160 →
 Reads
 Tryz.prog
 (Instr.loadAt
 (36 :
 Nat)
 (Value.pointer
 (some
 (Addr.mk
 (Array.size
 h)
 (0 :
 Nat)
 none))))
 h160
 (Value.pointer
 a159)) ∧
 HC
 Tryz.prog
 (59 :
 Nat)
 (Array.mk
 [Value.pointer
 a159])
 h157
 fun
 (v161 :
 Value)
 (h162 :
 Heap) =>
 ∃
 (s163
 :
 ByteArray),
 v161 =
 Value.string
 s163 ∧
 I149
 h162 ∧
 HC
 Tryz.prog
 (72 :
 Nat)
 (Array.mk
 [Value.pointer
 a153,
 Value.string
 s158,
 Value.string
 s163])
 h162
 fun
 (v164 :
 Value)
 (h165 :
 Heap) =>
 ∃
 (n166
 :
 Int),
 v164 =
 Value.int
 IntKind.i64
 n166 ∧
 br
 (n166 !=
 (0 :
 Int))
 (SVC
 Tryz.prog
 (Instr.storeAt
 (34 :
 Nat)
 (Value.pointer
 (some
 (Addr.mk
 (Array.push
 h
 (Obj.cells
 (Array.mk
 [Value.pointer
 (some
 (Addr.mk
 p
 (0 :
 Nat)
 none))])
 (36 :
 Nat))).size
 (0 :
 Nat)
 none)))
 (Value.int
 IntKind.i64
 n166))
 h165
 fun
 (x167 :
 Unit)
 (h168 :
 Heap) =>
 ∀
 (h169 :
 Heap),
 Turn
 h168
 h169 →
 ∃
 (n170
 :
 Int),
 Reads
 Tryz.prog
 (loadVar
 (34 :
 Nat)
 (Addr.mk
 (Array.push
 h
 (Obj.cells
 (Array.mk
 [Value.pointer
 (some
 (Addr.mk
 p
 (0 :
 Nat)
 none))])
 (36 :
 Nat))).size
 (0 :
 Nat)
 none))
 h169
 (Value.int
 IntKind.i64
 n170) ∧
 R
 (Value.int
 IntKind.i64
 n170)
 h169)
 (∃
 (a171
 :
 Option
 Addr),
 Reads
 Tryz.prog
 (Instr.loadAt
 (36 :
 Nat)
 (Value.pointer
 (some
 (Addr.mk
 (Array.size
 h)
 (0 :
 Nat)
 none))))
 h165
 (Value.pointer
 a171) ∧
 HC
 Tryz.prog
 (73 :
 Nat)
 (Array.mk
 [Value.pointer
 a171,
 Value.map
 m])
 h165
 fun
 (v172 :
 Value)
 (h173 :
 Heap) =>
 ∃
 (n174
 :
 Int),
 v172 =
 Value.int
 IntKind.i64
 n174 ∧
 SVC
 Tryz.prog
 (Instr.storeAt
 (34 :
 Nat)
 (Value.pointer
 (some
 (Addr.mk
 (Array.push
 h
 (Obj.cells
 (Array.mk
 [Value.pointer
 (some
 (Addr.mk
 p
 (0 :
 Nat)
 none))])
 (36 :
 Nat))).size
 (0 :
 Nat)
 none)))
 (Value.int
 IntKind.i64
 n174))
 h173
 fun
 (x175 :
 Unit)
 (h176 :
 Heap) =>
 ∀
 (h177 :
 Heap),
 Turn
 h176
 h177 →
 ∃
 (n178
 :
 Int),
 Reads
 Tryz.prog
 (loadVar
 (34 :
 Nat)
 (Addr.mk
 (Array.push
 h
 (Obj.cells
 (Array.mk
 [Value.pointer
 (some
 (Addr.mk
 p
 (0 :
 Nat)
 none))])
 (36 :
 Nat))).size
 (0 :
 Nat)
 none))
 h177
 (Value.int
 IntKind.i64
 n178) ∧
 R
 (Value.int
 IntKind.i64
 n178)
 h177)))))))) := by kernel_rfl

theorem vcLay (p : Nat) (m : Option Nat) (h : Heap) (R : Value → Heap → Prop) :
    vcF Tryz.prog Tryz.f73 56 [8] [] [.pointer (some ⟨p, 0, none⟩), .map m] h R =
(∃ (I0 : Int → Heap → Prop),
 (HC Tryz.prog (67 : Nat) (Array.mk [Value.map m]) h fun (v1 : Value) (h2 : Heap) =>
 ∃ (v3 : Value),
 v1 = v3 ∧
 HC Tryz.prog (66 : Nat) (Array.mk [v3]) h2 fun (v4 : Value) (h5 : Heap) =>
 ∃ (a6 : Option Addr),
 ∃ (k7 : Nat),
 ∃ (k8 : Nat),
 v4 = Value.slice a6 k7 k8 ∧
 ∃ (I9 : Int → Int → Heap → Prop),
 ∃ (I10 : Int → Int → Heap → Nat),
 I9 (0 : Int) (0 : Int) h5 ∧
 ∀ (n11 n12 : Int) (h13 : Heap),
 I9 n11 n12 h13 →
 br (decide (n12 < (↑k7 : Int)))
 (∃ (p14 : Addr),
 (a6 = some p14 ∧ (0 : Int) ≤ n12 ∧ n12 < (↑k7 : Int)) ∧
 ∃ (n15 : Int),
 Reads Tryz.prog (Instr.loadAt (3 : Nat) (Value.pointer (some (p14.add (n12.toNat * (1 : Nat)))))) h13 (Value.int IntKind.i64 n15) ∧
 ∃ (p16 : Addr),
 some (Addr.mk p (0 : Nat) none) = some p16 ∧
 ∃ (a17 : Option Addr),
 Reads Tryz.prog (Instr.loadAt (32 : Nat) (Value.pointer (some p16))) h13 (Value.pointer a17) ∧
 ∃ (p18 : Addr),
 some (Addr.mk p (0 : Nat) none) = some p18 ∧
 ∃ (s19 : ByteArray),
 Reads Tryz.prog (Instr.loadAt (9 : Nat) (Value.pointer (some (p18.add (1 : Nat))))) h13 (Value.string s19) ∧
 ∃ (a20 : Option Addr),
 ∃ (k21 : Nat),
 ∃ (k22 : Nat),
 Reads Tryz.prog (Instr.lookup (48 : Nat) (Value.map m) (Value.int IntKind.i64 n15) false) h13 (Value.slice a20 k21 k22) ∧
 HC Tryz.prog (17 : Nat) (Array.mk [Value.pointer a17, Value.string s19, Value.int IntKind.i64 n15, Value.slice a20 k21 k22]) h13
 fun (v23 : Value) (h24 : Heap) =>
 ∃ (n25 : Int),
 v23 = Value.int IntKind.i64 n25 ∧
 br (n25 != (0 : Int)) (R (Value.int IntKind.i64 n25) h24)
 (I9 n11 (IntKind.i64.wrap (n12 + (1 : Int))) h24 ∧ I10 n11 (IntKind.i64.wrap (n12 + (1 : Int))) h24 < I10 n11 n12 h13))
 (I0 n11 h13)) ∧
 ∀ (n26 : Int) (h27 : Heap),
 I0 n26 h27 →
 ∃ (n28 : Int),
 Reads Tryz.prog (Builtin.len_ (Array.mk [(48 : Nat)]) (3 : Nat) (Array.mk [Value.map m])) h27 (Value.int IntKind.i64 n28) ∧
 br (decide (n28 > (0 : Int)))
 (∃ (p29 : Addr),
 some (Addr.mk p (0 : Nat) none) = some p29 ∧
 ∃ (a30 : Option Addr),
 Reads Tryz.prog (Instr.loadAt (32 : Nat) (Value.pointer (some p29))) h27 (Value.pointer a30) ∧
 ∃ (p31 : Addr),
 some (Addr.mk p (0 : Nat) none) = some p31 ∧
 ∃ (s32 : ByteArray),
 Reads Tryz.prog (Instr.loadAt (9 : Nat) (Value.pointer (some (p31.add (1 : Nat))))) h27 (Value.string s32) ∧
 HC Tryz.prog (71 : Nat) (Array.mk [Value.pointer a30, Value.string s32]) h27 fun (v33 : Value) (h34 : Heap) =>
 ∃ (n35 : Int),
 v33 = Value.int IntKind.i64 n35 ∧
 br (n35 != (0 : Int)) (R (Value.int IntKind.i64 n35) h34)
 (∃ (I36 : Heap → Prop),
 I36 h34 ∧
 ∃ (p37 : Addr),
 some (Addr.mk p (0 : Nat) none) = some p37 ∧
 ∃ (a38 : Option Addr),
 (∀ (h39 : Heap), I36 h39 → Reads Tryz.prog (Instr.loadAt (32 : Nat) (Value.pointer (some p37))) h39 (Value.pointer a38)) ∧
 HC Tryz.prog (59 : Nat) (Array.mk [Value.pointer (some (Addr.mk p (0 : Nat) none))]) h34 fun (v40 : Value) (h41 : Heap) =>
 ∃ (s42 : ByteArray),
 v40 = Value.string s42 ∧
 I36 h41 ∧
 HC Tryz.prog (58 : Nat) (Array.mk [Value.pointer a38, Value.string s42]) h41 fun (v43 : Value) (h44 : Heap) =>
 ∃ (n45 : Int), v43 = Value.int IntKind.i64 n45 ∧ R (Value.int IntKind.i64 n45) h44))
 (∃ (I46 : Heap → Prop),
 I46 h27 ∧
 ∃ (p47 : Addr),
 some (Addr.mk p (0 : Nat) none) = some p47 ∧
 ∃ (a48 : Option Addr),
 (∀ (h49 : Heap), I46 h49 → Reads Tryz.prog (Instr.loadAt (32 : Nat) (Value.pointer (some p47))) h49 (Value.pointer a48)) ∧
 HC Tryz.prog (59 : Nat) (Array.mk [Value.pointer (some (Addr.mk p (0 : Nat) none))]) h27 fun (v50 : Value) (h51 : Heap) =>
 ∃ (s52 : ByteArray),
 v50 = Value.string s52 ∧
 I46 h51 ∧
 HC Tryz.prog (58 : Nat) (Array.mk [Value.pointer a48, Value.string s52]) h51 fun (v53 : Value) (h54 : Heap) =>
 ∃ (n55 : Int), v53 = Value.int IntKind.i64 n55 ∧ R (Value.int IntKind.i64 n55) h54)) := by kernel_rfl

theorem vcMay (p : Nat) (m : Option Nat) (h : Heap) (R : Value → Heap → Prop) :
    vcF Tryz.prog Tryz.f64 44 [] [] [.pointer (some ⟨p, 0, none⟩), .map m] h R =
(HC Tryz.prog (30 : Nat) (Array.mk [Value.pointer (some (Addr.mk p (0 : Nat) none))]) h fun (v0 : Value) (h1 : Heap) =>
 ∃ (n2 : Int),
 v0 = Value.int IntKind.i64 n2 ∧
 SVC Tryz.prog (Instr.range (48 : Nat) (Value.map m)) h1 fun (v3 : Value) (h4 : Heap) =>
 ∃ (a5 : Option Addr),
 v3 = Value.pointer a5 ∧
 ∃ (I6 : Int → Int → Int → Heap → Prop),
 ∃ (I7 : Int → Int → Int → Heap → Nat),
 I6 (0 : Int) (0 : Int) (0 : Int) h4 ∧
 ∀ (n8 n9 n10 : Int) (h11 : Heap),
 I6 n8 n9 n10 h11 →
 SVC Tryz.prog (Instr.next (Value.pointer a5) false (0 : Nat)) h11 fun (v12 : Value) (h13 : Heap) =>
 (v12 = Value.tuple (Array.mk [Value.bool false]) ∧
 SVC Tryz.prog (Instr.range (48 : Nat) (Value.map m)) h13 fun (v14 : Value) (h15 : Heap) =>
 ∃ (a16 : Option Addr),
 v14 = Value.pointer a16 ∧
 ∃ (I17 : Int → Int → Heap → Prop),
 ∃ (I18 : Int → Int → Heap → Nat),
 I17 n8 n9 h15 ∧
 ∀ (n19 n20 : Int) (h21 : Heap),
 I17 n19 n20 h21 →
 SVC Tryz.prog (Instr.next (Value.pointer a16) false (0 : Nat)) h21 fun (v22 : Value) (h23 : Heap) =>
 v22 = Value.tuple (Array.mk [Value.bool false]) ∧ R (Value.tuple (Array.mk [Value.int IntKind.i64 n10, Value.int IntKind.i64 (0 : Int)])) h23 ∨
 ∃ (v24 : Value),
 ∃ (v25 : Value),
 v22 = Value.tuple (Array.mk [Value.bool true, v24, v25]) ∧
 ∃ (n26 : Int),
 ∃ (v27 : Value),
 Reads Tryz.prog (Instr.entry (Value.pointer a16)) h23 (Value.tuple (Array.mk [Value.int IntKind.i64 n26, v27])) ∧
 br (decide (n26 < (0 : Int)) || decide (n26 ≥ IntKind.i64.wrap (n2 + n10)))
 (R (Value.tuple (Array.mk [Value.int IntKind.i64 (0 : Int), Value.int IntKind.i64 (1 : Int)])) h23)
 (I17 n19 n20 h23 ∧ I18 n19 n20 h23 < I18 n19 n20 h21)) ∨
 ∃ (v28 : Value),
 ∃ (v29 : Value),
 v12 = Value.tuple (Array.mk [Value.bool true, v28, v29]) ∧
 ∃ (n30 : Int),
 ∃ (a31 : Option Addr),
 ∃ (k32 : Nat),
 ∃ (k33 : Nat),
 Reads Tryz.prog (Instr.entry (Value.pointer a5)) h13 (Value.tuple (Array.mk [Value.int IntKind.i64 n30, Value.slice a31 k32 k33])) ∧
 br (decide ((↑k32 : Int) > (512 : Int))) (R (Value.tuple (Array.mk [Value.int IntKind.i64 (0 : Int), Value.int IntKind.i64 (3 : Int)])) h13)
 (br (decide (n30 ≥ n2)) (I6 n8 n9 (IntKind.i64.wrap (n10 + (1 : Int))) h13 ∧ I7 n8 n9 (IntKind.i64.wrap (n10 + (1 : Int))) h13 < I7 n8 n9 n10 h11)
 (I6 n8 n9 n10 h13 ∧ I7 n8 n9 n10 h13 < I7 n8 n9 n10 h11))) := by kernel_rfl

theorem vcPCount (p : Nat) (h : Heap) (R : Value → Heap → Prop) :
    vcF Tryz.prog Tryz.f30 14 [] [] [.pointer (some ⟨p, 0, none⟩)] h R =
(∃ (b0 : Bool),
 Reads Tryz.prog (eqSem BinOp.eql (36 : Nat) (Operand.tmp (3 : Nat)) (Operand.const (Value.pointer none)) (Value.pointer (some (Addr.mk p (0 : Nat) none))) (Value.pointer none)) h (Value.bool b0) ∧
 br b0 (R (Value.int IntKind.i64 (0 : Int)) h)
 (∃ (p1 : Addr),
 some (Addr.mk p (0 : Nat) none) = some p1 ∧
 ∃ (a2 : Option Addr),
 Reads Tryz.prog (Instr.loadAt (32 : Nat) (Value.pointer (some p1))) h (Value.pointer a2) ∧
 ∃ (p3 : Addr),
 some (Addr.mk p (0 : Nat) none) = some p3 ∧
 ∃ (s4 : ByteArray),
 Reads Tryz.prog (Instr.loadAt (9 : Nat) (Value.pointer (some (p3.add (1 : Nat))))) h (Value.string s4) ∧
 HC Tryz.prog (74 : Nat) (Array.mk [Value.pointer a2, Value.string s4]) h fun (v5 : Value) (h6 : Heap) =>
 ∃ (n7 : Int), v5 = Value.int IntKind.i64 n7 ∧ R (Value.int IntKind.i64 n7) h6)) := by kernel_rfl

theorem vcPRead (p : Nat) (i : Int) (h : Heap) (R : Value → Heap → Prop) :
    vcF Tryz.prog Tryz.f61 20 [] [] [.pointer (some ⟨p, 0, none⟩), .int .i64 i] h R =
(∃ (b0 : Bool),
 Reads Tryz.prog (eqSem BinOp.eql (36 : Nat) (Operand.tmp (6 : Nat)) (Operand.const (Value.pointer none)) (Value.pointer (some (Addr.mk p (0 : Nat) none))) (Value.pointer none)) h (Value.bool b0) ∧
 br b0 (R (Value.tuple (Array.mk [Value.slice none (0 : Nat) (0 : Nat), Value.int IntKind.i64 (2 : Int)])) h)
 (∃ (p1 : Addr),
 some (Addr.mk p (0 : Nat) none) = some p1 ∧
 ∃ (a2 : Option Addr),
 Reads Tryz.prog (Instr.loadAt (32 : Nat) (Value.pointer (some p1))) h (Value.pointer a2) ∧
 ∃ (p3 : Addr),
 some (Addr.mk p (0 : Nat) none) = some p3 ∧
 ∃ (s4 : ByteArray),
 Reads Tryz.prog (Instr.loadAt (9 : Nat) (Value.pointer (some (p3.add (1 : Nat))))) h (Value.string s4) ∧
 HC Tryz.prog (94 : Nat) (Array.mk [Value.pointer a2, Value.string s4, Value.int IntKind.i64 i]) h fun (v5 : Value) (h6 : Heap) =>
 ∃ (a7 : Option Addr),
 ∃ (k8 : Nat),
 ∃ (k9 : Nat),
 ∃ (n10 : Int),
 v5 = Value.tuple (Array.mk [Value.slice a7 k8 k9, Value.int IntKind.i64 n10]) ∧ R (Value.tuple (Array.mk [Value.slice a7 k8 k9, Value.int IntKind.i64 n10])) h6)) := by kernel_rfl

theorem vcDraft (p : Nat) (h : Heap) (R : Value → Heap → Prop) :
    vcF Tryz.prog Tryz.f57 8 [] [] [.pointer (some ⟨p, 0, none⟩)] h R =
(∃ (p0 : Addr),
 some (Addr.mk p (0 : Nat) none) = some p0 ∧
 ∃ (s1 : ByteArray),
 Reads Tryz.prog (Instr.loadAt (9 : Nat) (Value.pointer (some (p0.add (1 : Nat))))) h (Value.string s1) ∧
 (↑(s1.size + (2 : Nat)) : Int) ≤ IntKind.i64.max ∧ R (Value.string (s1 ++ ByteArray.mk (Array.mk [(45 : UInt8), (116 : UInt8)]))) h) := by kernel_rfl

theorem vcJournal (p : Nat) (h : Heap) (R : Value → Heap → Prop) :
    vcF Tryz.prog Tryz.f59 8 [] [] [.pointer (some ⟨p, 0, none⟩)] h R =
(∃ (p0 : Addr),
 some (Addr.mk p (0 : Nat) none) = some p0 ∧
 ∃ (s1 : ByteArray),
 Reads Tryz.prog (Instr.loadAt (9 : Nat) (Value.pointer (some (p0.add (1 : Nat))))) h (Value.string s1) ∧
 (↑(s1.size + (2 : Nat)) : Int) ≤ IntKind.i64.max ∧ R (Value.string (s1 ++ ByteArray.mk (Array.mk [(45 : UInt8), (106 : UInt8)]))) h) := by kernel_rfl

theorem vcOpen (d : Nat) (s : ByteArray) (h : Heap) (R : Value → Heap → Prop) :
    vcF Tryz.prog Tryz.f18 38 [10] [] [.pointer (some ⟨d, 0, none⟩), .string s] h R =
(∃ (b0 : Bool),
 Reads Tryz.prog (eqSem BinOp.eql (32 : Nat) (Operand.tmp (9 : Nat)) (Operand.const (Value.pointer none)) (Value.pointer (some (Addr.mk d (0 : Nat) none))) (Value.pointer none)) h (Value.bool b0) ∧
 br b0 (R (Value.tuple (Array.mk [Value.pointer none, Value.int IntKind.i64 (2 : Int)])) h)
 (HC Tryz.prog (28 : Nat) (Array.mk [Value.pointer (some (Addr.mk d (0 : Nat) none))])
 (Array.push h (Obj.cells (Array.mk [Value.pointer (some (Addr.mk d (0 : Nat) none)), Value.string s]) (108 : Nat))) fun (v1 : Value) (h2 : Heap) =>
 ∃ (b3 : Bool),
 v1 = Value.bool b3 ∧
 br b3 (R (Value.tuple (Array.mk [Value.pointer none, Value.int IntKind.i64 (8 : Int)])) h2)
 (∃ (I4 : Option Addr → Int → Heap → Prop),
 (HC Tryz.prog (57 : Nat) (Array.mk [Value.pointer (some (Addr.mk (Array.size h) (0 : Nat) none))]) h2 fun (v5 : Value) (h6 : Heap) =>
 ∃ (s7 : ByteArray),
 v5 = Value.string s7 ∧
 HC Tryz.prog (56 : Nat) (Array.mk [Value.pointer (some (Addr.mk d (0 : Nat) none)), Value.string s7]) h6 fun (v8 : Value) (h9 : Heap) =>
 ∃ (b10 : Bool),
 v8 = Value.bool b10 ∧
 br b10
 (HC Tryz.prog (57 : Nat) (Array.mk [Value.pointer (some (Addr.mk (Array.size h) (0 : Nat) none))]) h9 fun (v11 : Value) (h12 : Heap) =>
 ∃ (s13 : ByteArray),
 v11 = Value.string s13 ∧
 HC Tryz.prog (58 : Nat) (Array.mk [Value.pointer (some (Addr.mk d (0 : Nat) none)), Value.string s13]) h12 fun (v14 : Value) (h15 : Heap) =>
 ∃ (n16 : Int),
 v14 = Value.int IntKind.i64 n16 ∧
 br (n16 != (0 : Int)) (R (Value.tuple (Array.mk [Value.pointer none, Value.int IntKind.i64 n16])) h15) (I4 none (0 : Int) h15))
 (I4 none (0 : Int) h9)) ∧
 ∀ (a17 : Option Addr) (n18 : Int) (h19 : Heap),
 I4 a17 n18 h19 →
 HC Tryz.prog (59 : Nat) (Array.mk [Value.pointer (some (Addr.mk (Array.size h) (0 : Nat) none))]) h19 fun (v20 : Value) (h21 : Heap) =>
 ∃ (s22 : ByteArray),
 v20 = Value.string s22 ∧
 HC Tryz.prog (56 : Nat) (Array.mk [Value.pointer (some (Addr.mk d (0 : Nat) none)), Value.string s22]) h21 fun (v23 : Value) (h24 : Heap) =>
 ∃ (b25 : Bool),
 v23 = Value.bool b25 ∧
 br b25
 (HC Tryz.prog (60 : Nat) (Array.mk [Value.pointer (some (Addr.mk (Array.size h) (0 : Nat) none))]) h24 fun (v26 : Value) (h27 : Heap) =>
 ∃ (n28 : Int),
 v26 = Value.int IntKind.i64 n28 ∧
 br (n28 != (0 : Int)) (R (Value.tuple (Array.mk [Value.pointer none, Value.int IntKind.i64 n28])) h27)
 (R (Value.tuple (Array.mk [Value.pointer (some (Addr.mk (Array.size h) (0 : Nat) none)), Value.int IntKind.i64 (0 : Int)])) h27))
 (R (Value.tuple (Array.mk [Value.pointer (some (Addr.mk (Array.size h) (0 : Nat) none)), Value.int IntKind.i64 (0 : Int)])) h24)))) := by kernel_rfl
end Go.Proofs.YthkhaobmhheoaaaGreat
end

section
set_option linter.unusedVariables false
set_option maxRecDepth 100000
namespace Go.Proofs.YthkhaobmhheoaaaGreat
open Go Go.Vc Go.Proofs

theorem vcPgAlive (h : Heap) (R : Value → Heap → Prop) :
    vcF Tryz.prog Tryz.f11 33 [] [] [] h R =
(HC Tryz.prog (16 : Nat) (Array.mk [Value.int IntKind.i64 (20 : Int)]) h fun (v0 : Value) (h1 : Heap) =>
 ∃ (a2 : Option Addr),
 v0 = Value.pointer a2 ∧
 HC Tryz.prog (18 : Nat) (Array.mk [Value.pointer a2, Value.string (ByteArray.mk (Array.mk [(102 : UInt8)]))]) h1 fun (v3 : Value) (h4 : Heap) =>
 ∃ (a5 : Option Addr),
 ∃ (n6 : Int),
 v3 = Value.tuple (Array.mk [Value.pointer a5, Value.int IntKind.i64 n6]) ∧
 SVC Tryz.prog (Instr.makeSlice (22 : Nat) (Value.int IntKind.i64 (512 : Int)) (Value.int IntKind.i64 (512 : Int))) h4 fun (v7 : Value) (h8 : Heap) =>
 ∃ (a9 : Option Addr),
 ∃ (k10 : Nat),
 ∃ (k11 : Nat),
 v7 = Value.slice a9 k10 k11 ∧
 br (decide (n6 = (0 : Int)))
 (SVC Tryz.prog (Instr.mapUpdate (48 : Nat) (Value.map (some (Array.size h8))) (Value.int IntKind.i64 (0 : Int)) (Value.slice a9 k10 k11))
 (Array.push h8 (Obj.map (Array.mk []) (0 : Nat))) fun (x12 : Unit) (h13 : Heap) =>
 SVC Tryz.prog (Instr.mapUpdate (48 : Nat) (Value.map (some (Array.size h8))) (Value.int IntKind.i64 (1 : Int)) (Value.slice a9 k10 k11)) h13
 fun (x14 : Unit) (h15 : Heap) =>
 HC Tryz.prog (27 : Nat) (Array.mk [Value.pointer a5, Value.map (some (Array.size h8))]) h15 fun (v16 : Value) (h17 : Heap) =>
 ∃ (n18 : Int),
 v16 = Value.int IntKind.i64 n18 ∧
 br (decide (n18 = (0 : Int)))
 (HC Tryz.prog (30 : Nat) (Array.mk [Value.pointer a5]) h17 fun (v19 : Value) (h20 : Heap) =>
 ∃ (n21 : Int),
 v19 = Value.int IntKind.i64 n21 ∧
 br (decide (n21 = (2 : Int)))
 (HC Tryz.prog (46 : Nat) (Array.mk [Value.pointer a2]) h20 fun (v22 : Value) (h23 : Heap) =>
 ∃ (n24 : Int), v22 = Value.int IntKind.i64 n24 ∧ R (Value.bool (n24 == (9 : Int))) h23)
 (R (Value.bool false) h20))
 (R (Value.bool false) h17))
 (R (Value.bool false) h8)) := by kernel_rfl

theorem vcPgGreat (A : Option Addr) (n c : Nat) (h : Heap) (R : Value → Heap → Prop) :
    vcF Tryz.prog Tryz.f21 37 [] [] [.slice A n c] h R =
(∃ (I0 : Bool → Int → Int → Heap → Prop),
 ∃ (I1 : Bool → Int → Int → Heap → Nat),
 I0 false (0 : Int) (0 : Int) h ∧
 ∀ (b2 : Bool) (n3 n4 : Int) (h5 : Heap),
 I0 b2 n3 n4 h5 →
 br (decide (n4 < (↑n : Int)))
 (∃ (p6 : Addr),
 (A = some p6 ∧ (0 : Int) ≤ n4 ∧ n4 < (↑n : Int)) ∧
 ∃ (a7 : Option Addr),
 ∃ (k8 : Nat),
 ∃ (k9 : Nat),
 ∃ (n10 : Int),
 ∃ (n11 : Int),
 Reads Tryz.prog (Instr.loadAt (47 : Nat) (Value.pointer (some (p6.add (n4.toNat * (3 : Nat)))))) h5
 (Value.agg (Array.mk [Value.slice a7 k8 k9, Value.int IntKind.i64 n10, Value.int IntKind.u64 n11])) ∧
 SVC Tryz.prog
 (Instr.storeAt (47 : Nat) (Value.pointer (some (Addr.mk (Array.size h5) (0 : Nat) none)))
 (Value.agg (Array.mk [Value.slice a7 k8 k9, Value.int IntKind.i64 n10, Value.int IntKind.u64 n11])))
 (Array.push h5 (Obj.cells (Array.mk [Value.slice none (0 : Nat) (0 : Nat), Value.int IntKind.i64 (0 : Int), Value.int IntKind.u64 (0 : Int)]) (47 : Nat)))
 fun (x12 : Unit) (h13 : Heap) =>
 ∃ (a14 : Option Addr),
 ∃ (k15 : Nat),
 ∃ (k16 : Nat),
 Reads Tryz.prog (Instr.loadAt (23 : Nat) (Value.pointer (some (Addr.mk (Array.size h5) (0 : Nat) none)))) h13 (Value.slice a14 k15 k16) ∧
 br (decide ((↑k15 : Int) > (8 : Int))) (R (Value.bool true) h13)
 (∃ (a17 : Option Addr),
 ∃ (k18 : Nat),
 ∃ (k19 : Nat),
 Reads Tryz.prog (Instr.loadAt (23 : Nat) (Value.pointer (some (Addr.mk (Array.size h5) (0 : Nat) none)))) h13 (Value.slice a17 k18 k19) ∧
 ∃ (I20 : Bool → Int → Int → Heap → Prop),
 ∃ (I21 : Bool → Int → Int → Heap → Nat),
 I20 b2 n3 (0 : Int) h13 ∧
 ∀ (b22 : Bool) (n23 n24 : Int) (h25 : Heap),
 I20 b22 n23 n24 h25 →
 br (decide (n24 < (↑k18 : Int)))
 (∃ (p26 : Addr),
 (a17 = some p26 ∧ (0 : Int) ≤ n24 ∧ n24 < (↑k18 : Int)) ∧
 ∃ (n27 : Int),
 ∃ (s28 : ByteArray),
 Reads Tryz.prog (Instr.loadAt (27 : Nat) (Value.pointer (some (p26.add (n24.toNat * (2 : Nat)))))) h25
 (Value.agg (Array.mk [Value.int IntKind.i64 n27, Value.string s28])) ∧
 SVC Tryz.prog
 (Instr.storeAt (27 : Nat) (Value.pointer (some (Addr.mk (Array.size h25) (0 : Nat) none)))
 (Value.agg (Array.mk [Value.int IntKind.i64 n27, Value.string s28])))
 (Array.push h25 (Obj.cells (Array.mk [Value.int IntKind.i64 (0 : Int), Value.string (ByteArray.mk (Array.mk []))]) (27 : Nat)))
 fun (x29 : Unit) (h30 : Heap) =>
 ∃ (s31 : ByteArray),
 Reads Tryz.prog (Instr.loadAt (9 : Nat) (Value.pointer (some ((Addr.mk (Array.size h25) (0 : Nat) none).add (1 : Nat))))) h30
 (Value.string s31) ∧
 br (decide (IntKind.i64.wrap (n23 + (↑s31.size : Int)) > (32768 : Int))) (R (Value.bool true) h30)
 (I20 b22 (IntKind.i64.wrap (n23 + (↑s31.size : Int))) (IntKind.i64.wrap (n24 + (1 : Int))) h30 ∧
 I21 b22 (IntKind.i64.wrap (n23 + (↑s31.size : Int))) (IntKind.i64.wrap (n24 + (1 : Int))) h30 < I21 b22 n23 n24 h25))
 (I0 b22 n23 (IntKind.i64.wrap (n4 + (1 : Int))) h25 ∧ I1 b22 n23 (IntKind.i64.wrap (n4 + (1 : Int))) h25 < I1 b2 n3 n4 h5)))
 (R (Value.bool (decide ((↑n : Int) > (12 : Int)))) h5)) := by kernel_rfl

theorem vcWrites (A : Option Addr) (n c : Nat) (fu ke : Int) (h : Heap) (R : Value → Heap → Prop) :
    vcF Tryz.prog Tryz.f22 83 [16] [] [.agg #[.slice A n c, .int .i64 fu, .int .u64 ke]] h R =
(∃ (a0 : Option Addr),
 ∃ (k1 : Nat),
 ∃ (k2 : Nat),
 Reads Tryz.prog (Instr.loadAt (23 : Nat) (Value.pointer (some (Addr.mk (Array.size h) (0 : Nat) none))))
 ((Array.push h (Obj.cells (Array.mk [Value.slice A n c, Value.int IntKind.i64 fu, Value.int IntKind.u64 ke]) (47 : Nat))).push (Obj.map (Array.mk []) (0 : Nat))) (Value.slice a0 k1 k2) ∧
 ∃ (I3 : Int → Heap → Prop),
 ∃ (I4 : Int → Heap → Nat),
 I3 (0 : Int) ((Array.push h (Obj.cells (Array.mk [Value.slice A n c, Value.int IntKind.i64 fu, Value.int IntKind.u64 ke]) (47 : Nat))).push (Obj.map (Array.mk []) (0 : Nat))) ∧
 ∀ (n5 : Int) (h6 : Heap),
 I3 n5 h6 →
 br (decide (n5 < (↑k1 : Int)))
 (∃ (p7 : Addr),
 (a0 = some p7 ∧ (0 : Int) ≤ n5 ∧ n5 < (↑k1 : Int)) ∧
 ∃ (n8 : Int),
 ∃ (s9 : ByteArray),
 Reads Tryz.prog (Instr.loadAt (27 : Nat) (Value.pointer (some (p7.add (n5.toNat * (2 : Nat)))))) h6 (Value.agg (Array.mk [Value.int IntKind.i64 n8, Value.string s9])) ∧
 SVC Tryz.prog
 (Instr.storeAt (27 : Nat) (Value.pointer (some (Addr.mk (Array.size h6) (0 : Nat) none))) (Value.agg (Array.mk [Value.int IntKind.i64 n8, Value.string s9])))
 (Array.push h6 (Obj.cells (Array.mk [Value.int IntKind.i64 (0 : Int), Value.string (ByteArray.mk (Array.mk []))]) (27 : Nat))) fun (x10 : Unit) (h11 : Heap) =>
 ∃ (n12 : Int),
 Reads Tryz.prog (Instr.loadAt (3 : Nat) (Value.pointer (some (Addr.mk (Array.size h6) (0 : Nat) none)))) h11 (Value.int IntKind.i64 n12) ∧
 ∃ (s13 : ByteArray),
 Reads Tryz.prog (Instr.loadAt (9 : Nat) (Value.pointer (some ((Addr.mk (Array.size h6) (0 : Nat) none).add (1 : Nat))))) h11 (Value.string s13) ∧
 SVC Tryz.prog (convert (9 : Nat) (22 : Nat) (Value.string s13)) h11 fun (v14 : Value) (h15 : Heap) =>
 ∃ (a16 : Option Addr),
 ∃ (k17 : Nat),
 ∃ (k18 : Nat),
 v14 = Value.slice a16 k17 k18 ∧
 SVC Tryz.prog
 (Instr.mapUpdate (48 : Nat)
 (Value.map (some (Array.push h (Obj.cells (Array.mk [Value.slice A n c, Value.int IntKind.i64 fu, Value.int IntKind.u64 ke]) (47 : Nat))).size))
 (Value.int IntKind.i64 n12) (Value.slice a16 k17 k18))
 h15 fun (x19 : Unit) (h20 : Heap) => I3 (IntKind.i64.wrap (n5 + (1 : Int))) h20 ∧ I4 (IntKind.i64.wrap (n5 + (1 : Int))) h20 < I4 n5 h6)
 (SVC Tryz.prog
 (Instr.range (48 : Nat) (Value.map (some (Array.push h (Obj.cells (Array.mk [Value.slice A n c, Value.int IntKind.i64 fu, Value.int IntKind.u64 ke]) (47 : Nat))).size))) h6
 fun (v21 : Value) (h22 : Heap) =>
 ∃ (a23 : Option Addr),
 v21 = Value.pointer a23 ∧
 ∃ (I24 : Option Addr → Nat → Nat → Heap → Prop),
 ∃ (I25 : Option Addr → Nat → Nat → Heap → Nat),
 I24 none (0 : Nat) (0 : Nat) h22 ∧
 ∀ (a26 : Option Addr) (k27 k28 : Nat) (h29 : Heap),
 I24 a26 k27 k28 h29 →
 SVC Tryz.prog (Instr.next (Value.pointer a23) false (0 : Nat)) h29 fun (v30 : Value) (h31 : Heap) =>
 v30 = Value.tuple (Array.mk [Value.bool false]) ∧
 R
 (Value.tuple
 (Array.mk
 [Value.map (some (Array.push h (Obj.cells (Array.mk [Value.slice A n c, Value.int IntKind.i64 fu, Value.int IntKind.u64 ke]) (47 : Nat))).size),
 Value.slice a26 k27 k28]))
 h31 ∨
 ∃ (v32 : Value),
 ∃ (v33 : Value),
 v30 = Value.tuple (Array.mk [Value.bool true, v32, v33]) ∧
 ∃ (a34 : Option Addr),
 ∃ (k35 : Nat),
 ∃ (k36 : Nat),
 Reads Tryz.prog (Instr.loadAt (23 : Nat) (Value.pointer (some (Addr.mk (Array.size h) (0 : Nat) none)))) h31 (Value.slice a34 k35 k36) ∧
 ∃ (I37 : Int → Int → Heap → Prop),
 ∃ (I38 : Int → Int → Heap → Nat),
 I37 (-1 : Int) (0 : Int) h31 ∧
 ∀ (n39 n40 : Int) (h41 : Heap),
 I37 n39 n40 h41 →
 br (decide (n40 < (↑k35 : Int)))
 (∃ (I42 : Int → Heap → Prop),
 (∃ (p43 : Addr),
 (a34 = some p43 ∧ (0 : Int) ≤ n40 ∧ n40 < (↑k35 : Int)) ∧
 ∃ (n44 : Int),
 ∃ (s45 : ByteArray),
 Reads Tryz.prog (Instr.loadAt (27 : Nat) (Value.pointer (some (p43.add (n40.toNat * (2 : Nat)))))) h41
 (Value.agg (Array.mk [Value.int IntKind.i64 n44, Value.string s45])) ∧
 SVC Tryz.prog
 (Instr.storeAt (27 : Nat) (Value.pointer (some (Addr.mk (Array.size h41) (0 : Nat) none)))
 (Value.agg (Array.mk [Value.int IntKind.i64 n44, Value.string s45])))
 (Array.push h41
 (Obj.cells (Array.mk [Value.int IntKind.i64 (0 : Int), Value.string (ByteArray.mk (Array.mk []))]) (27 : Nat)))
 fun (x46 : Unit) (h47 : Heap) =>
 ∃ (n48 : Int),
 ((!(↑k27 : Int) == (0 : Int)) = true →
 Reads Tryz.prog (Instr.loadAt (3 : Nat) (Value.pointer (some (Addr.mk (Array.size h41) (0 : Nat) none)))) h47
 (Value.int IntKind.i64 n48)) ∧
 ∃ (p49 : Addr),
 ((!(↑k27 : Int) == (0 : Int)) = true →
 a26 = some p49 ∧
 (0 : Int) ≤ IntKind.i64.wrap ((↑k27 : Int) - (1 : Int)) ∧
 IntKind.i64.wrap ((↑k27 : Int) - (1 : Int)) < (↑k27 : Int)) ∧
 ∃ (n50 : Int),
 ((!(↑k27 : Int) == (0 : Int)) = true →
 Reads Tryz.prog
 (Instr.loadAt (3 : Nat)
 (Value.pointer (some (p49.add ((IntKind.i64.wrap ((↑k27 : Int) - (1 : Int))).toNat * (2 : Nat))))))
 h47 (Value.int IntKind.i64 n50)) ∧
 ∃ (n51 : Int),
 ((!decide (n39 < (0 : Int)) && ((↑k27 : Int) == (0 : Int) || decide (n48 > n50))) = true →
 Reads Tryz.prog
 (Instr.loadAt (3 : Nat) (Value.pointer (some (Addr.mk (Array.size h41) (0 : Nat) none)))) h47
 (Value.int IntKind.i64 n51)) ∧
 ∃ (a52 : Option Addr),
 ∃ (k53 : Nat),
 ∃ (k54 : Nat),
 ((!decide (n39 < (0 : Int)) && ((↑k27 : Int) == (0 : Int) || decide (n48 > n50))) = true →
 Reads Tryz.prog
 (Instr.loadAt (23 : Nat) (Value.pointer (some (Addr.mk (Array.size h) (0 : Nat) none))))
 h47 (Value.slice a52 k53 k54)) ∧
 ∃ (p55 : Addr),
 ((!decide (n39 < (0 : Int)) && ((↑k27 : Int) == (0 : Int) || decide (n48 > n50))) = true →
 a52 = some p55 ∧ (0 : Int) ≤ n39 ∧ n39 < (↑k53 : Int)) ∧
 ∃ (n56 : Int),
 ((!decide (n39 < (0 : Int)) && ((↑k27 : Int) == (0 : Int) || decide (n48 > n50))) =
 true →
 Reads Tryz.prog
 (Instr.loadAt (3 : Nat) (Value.pointer (some (p55.add (n39.toNat * (2 : Nat))))))
 h47 (Value.int IntKind.i64 n56)) ∧
 br
 (((↑k27 : Int) == (0 : Int) || decide (n48 > n50)) &&
 (decide (n39 < (0 : Int)) || decide (n51 ≤ n56)))
 (I42 n40 h47) (I42 n39 h47)) ∧
 ∀ (n57 : Int) (h58 : Heap),
 I42 n57 h58 →
 I37 n57 (IntKind.i64.wrap (n40 + (1 : Int))) h58 ∧ I38 n57 (IntKind.i64.wrap (n40 + (1 : Int))) h58 < I38 n39 n40 h41)
 (br (decide (n39 ≥ (0 : Int)))
 (∃ (a59 : Option Addr),
 ∃ (k60 : Nat),
 ∃ (k61 : Nat),
 Reads Tryz.prog (Instr.loadAt (23 : Nat) (Value.pointer (some (Addr.mk (Array.size h) (0 : Nat) none)))) h41
 (Value.slice a59 k60 k61) ∧
 ∃ (p62 : Addr),
 (a59 = some p62 ∧ (0 : Int) ≤ n39 ∧ n39 < (↑k60 : Int)) ∧
 ∃ (n63 : Int),
 ∃ (s64 : ByteArray),
 Reads Tryz.prog (Instr.loadAt (27 : Nat) (Value.pointer (some (p62.add (n39.toNat * (2 : Nat)))))) h41
 (Value.agg (Array.mk [Value.int IntKind.i64 n63, Value.string s64])) ∧
 SVC Tryz.prog
 (Instr.buildSlice (23 : Nat) (1 : Nat)
 (Array.mk [((0 : Nat), Value.agg (Array.mk [Value.int IntKind.i64 n63, Value.string s64]))]))
 h41 fun (v65 : Value) (h66 : Heap) =>
 ∃ (a67 : Option Addr),
 ∃ (k68 : Nat),
 ∃ (k69 : Nat),
 v65 = Value.slice a67 k68 k69 ∧
 SVC Tryz.prog
 (Builtin.append_ (Array.mk [(23 : Nat), (23 : Nat)]) (23 : Nat)
 (Array.mk [Value.slice a26 k27 k28, Value.slice a67 k68 k69]))
 h66 fun (v70 : Value) (h71 : Heap) =>
 ∃ (a72 : Option Addr),
 ∃ (k73 : Nat),
 ∃ (k74 : Nat),
 v70 = Value.slice a72 k73 k74 ∧ I24 a72 k73 k74 h71 ∧ I25 a72 k73 k74 h71 < I25 a26 k27 k28 h29)
 (I24 a26 k27 k28 h41 ∧ I25 a26 k27 k28 h41 < I25 a26 k27 k28 h29)))) := by kernel_rfl

theorem vcWants (A : Option Addr) (n c : Nat) (cn fr : Int) (h : Heap) (R : Value → Heap → Prop) :
    vcF Tryz.prog Tryz.f23 68 [15] [] [.slice A n c, .int .i64 cn, .int .i64 fr] h R =
(∃ (I0 : Int → Int → Heap → Prop),
 ∃ (I1 : Int → Int → Heap → Nat),
 I0 (0 : Int) (0 : Int) h ∧
 ∀ (n2 n3 : Int) (h4 : Heap),
 I0 n2 n3 h4 →
 br (decide (n3 < (↑n : Int)))
 (∃ (p5 : Addr),
 (A = some p5 ∧ (0 : Int) ≤ n3 ∧ n3 < (↑n : Int)) ∧
 ∃ (n6 : Int),
 ∃ (s7 : ByteArray),
 Reads Tryz.prog (Instr.loadAt (27 : Nat) (Value.pointer (some (p5.add (n3.toNat * (2 : Nat)))))) h4 (Value.agg (Array.mk [Value.int IntKind.i64 n6, Value.string s7])) ∧
 SVC Tryz.prog (Instr.storeAt (27 : Nat) (Value.pointer (some (Addr.mk (Array.size h4) (0 : Nat) none))) (Value.agg (Array.mk [Value.int IntKind.i64 n6, Value.string s7])))
 (Array.push h4 (Obj.cells (Array.mk [Value.int IntKind.i64 (0 : Int), Value.string (ByteArray.mk (Array.mk []))]) (27 : Nat))) fun (x8 : Unit) (h9 : Heap) =>
 ∃ (s10 : ByteArray),
 Reads Tryz.prog (Instr.loadAt (9 : Nat) (Value.pointer (some ((Addr.mk (Array.size h4) (0 : Nat) none).add (1 : Nat))))) h9 (Value.string s10) ∧
 br (decide ((↑s10.size : Int) > (512 : Int))) (R (Value.int IntKind.i64 (3 : Int)) h9)
 (I0 n2 (IntKind.i64.wrap (n3 + (1 : Int))) h9 ∧ I1 n2 (IntKind.i64.wrap (n3 + (1 : Int))) h9 < I1 n2 n3 h4))
 (∃ (I11 : Int → Int → Int → Heap → Prop),
 ∃ (I12 : Int → Int → Int → Heap → Nat),
 I11 n2 (0 : Int) (0 : Int) h4 ∧
 ∀ (n13 n14 n15 : Int) (h16 : Heap),
 I11 n13 n14 n15 h16 →
 br (decide (n15 < (↑n : Int)))
 (∃ (I17 : Int → Int → Heap → Prop),
 (∃ (p18 : Addr),
 (A = some p18 ∧ (0 : Int) ≤ n15 ∧ n15 < (↑n : Int)) ∧
 ∃ (n19 : Int),
 ∃ (s20 : ByteArray),
 Reads Tryz.prog (Instr.loadAt (27 : Nat) (Value.pointer (some (p18.add (n15.toNat * (2 : Nat)))))) h16
 (Value.agg (Array.mk [Value.int IntKind.i64 n19, Value.string s20])) ∧
 SVC Tryz.prog
 (Instr.storeAt (27 : Nat) (Value.pointer (some (Addr.mk (Array.size h16) (0 : Nat) none))) (Value.agg (Array.mk [Value.int IntKind.i64 n19, Value.string s20])))
 (Array.push h16 (Obj.cells (Array.mk [Value.int IntKind.i64 (0 : Int), Value.string (ByteArray.mk (Array.mk []))]) (27 : Nat))) fun (x21 : Unit) (h22 : Heap) =>
 ∃ (n23 : Int),
 Reads Tryz.prog (Instr.loadAt (3 : Nat) (Value.pointer (some (Addr.mk (Array.size h16) (0 : Nat) none)))) h22 (Value.int IntKind.i64 n23) ∧
 ∃ (n24 : Int),
 ((!decide (n23 < (0 : Int))) = true →
 Reads Tryz.prog (Instr.loadAt (3 : Nat) (Value.pointer (some (Addr.mk (Array.size h16) (0 : Nat) none)))) h22 (Value.int IntKind.i64 n24)) ∧
 br (decide (n23 < (0 : Int)) || decide (n24 > IntKind.i64.wrap (cn + n14))) (R (Value.int IntKind.i64 (1 : Int)) h22)
 (∃ (n25 : Int),
 Reads Tryz.prog (Instr.loadAt (3 : Nat) (Value.pointer (some (Addr.mk (Array.size h16) (0 : Nat) none)))) h22 (Value.int IntKind.i64 n25) ∧
 br (n25 == IntKind.i64.wrap (cn + n14)) (I17 n13 (IntKind.i64.wrap (n14 + (1 : Int))) h22) (I17 n13 n14 h22))) ∧
 ∀ (n26 n27 : Int) (h28 : Heap),
 I17 n26 n27 h28 → I11 n26 n27 (IntKind.i64.wrap (n15 + (1 : Int))) h28 ∧ I12 n26 n27 (IntKind.i64.wrap (n15 + (1 : Int))) h28 < I12 n13 n14 n15 h16)
 (br ((↑n : Int) == (0 : Int)) (R (Value.int IntKind.i64 (0 : Int)) h16)
 (HC Tryz.prog (14 : Nat) (Array.mk [Value.slice A n c]) h16 fun (v29 : Value) (h30 : Heap) =>
 ∃ (s31 : ByteArray),
 v29 = Value.string s31 ∧
 HC Tryz.prog (13 : Nat) (Array.mk [Value.string s31]) h30 fun (v32 : Value) (h33 : Heap) =>
 ∃ (s34 : ByteArray),
 v32 = Value.string s34 ∧
 (512 : Int) ≠ (0 : Int) ∧
 (512 : Int) ≠ (0 : Int) ∧
 (512 : Int) ≠ (0 : Int) ∧
 br
 (decide
 (fr <
 IntKind.i64.wrap
 (IntKind.i64.wrap
 (IntKind.i64.wrap ((↑s34.size : Int).tdiv (512 : Int)) +
 IntKind.i64.wrap ((IntKind.i64.wrap ((↑s34.size : Int).tmod (512 : Int) + (511 : Int))).tdiv (512 : Int))) +
 n14)))
 (R (Value.int IntKind.i64 (7 : Int)) h33) (R (Value.int IntKind.i64 (0 : Int)) h33))))) := by kernel_rfl

theorem vcPgHas (p : Nat) (A : Option Addr) (n c : Nat) (h : Heap) (R : Value → Heap → Prop) :
    vcF Tryz.prog Tryz.f19 47 [] [] [.pointer (some ⟨p, 0, none⟩), .slice A n c] h R =
(HC Tryz.prog (30 : Nat) (Array.mk [Value.pointer (some (Addr.mk p (0 : Nat) none))]) h fun (v0 : Value) (h1 : Heap) =>
 ∃ (n2 : Int),
 v0 = Value.int IntKind.i64 n2 ∧
 br (n2 != (↑n : Int)) (R (Value.bool false) h1)
 (∃ (I3 : Bool → Int → Heap → Prop),
 ∃ (I4 : Bool → Int → Heap → Nat),
 I3 false (0 : Int) h1 ∧
 ∀ (b5 : Bool) (n6 : Int) (h7 : Heap),
 I3 b5 n6 h7 →
 br (decide (n6 < (↑n : Int)))
 (∃ (p8 : Addr),
 (A = some p8 ∧ (0 : Int) ≤ n6 ∧ n6 < (↑n : Int)) ∧
 ∃ (s9 : ByteArray),
 Reads Tryz.prog (Instr.loadAt (9 : Nat) (Value.pointer (some (p8.add (n6.toNat * (1 : Nat)))))) h7 (Value.string s9) ∧
 HC Tryz.prog (61 : Nat) (Array.mk [Value.pointer (some (Addr.mk p (0 : Nat) none)), Value.int IntKind.i64 n6]) h7 fun (v10 : Value) (h11 : Heap) =>
 ∃ (a12 : Option Addr),
 ∃ (k13 : Nat),
 ∃ (k14 : Nat),
 ∃ (n15 : Int),
 v10 = Value.tuple (Array.mk [Value.slice a12 k13 k14, Value.int IntKind.i64 n15]) ∧
 ∃ (s16 : ByteArray),
 ((!n15 != (0 : Int)) = true → Reads Tryz.prog (convert (22 : Nat) (9 : Nat) (Value.slice a12 k13 k14)) h11 (Value.string s16)) ∧
 br (n15 != (0 : Int) || !s16.toList == s9.toList) (R (Value.bool false) h11)
 (I3 b5 (IntKind.i64.wrap (n6 + (1 : Int))) h11 ∧ I4 b5 (IntKind.i64.wrap (n6 + (1 : Int))) h11 < I4 b5 n6 h7))
 (HC Tryz.prog (61 : Nat) (Array.mk [Value.pointer (some (Addr.mk p (0 : Nat) none)), Value.int IntKind.i64 (↑n : Int)]) h7 fun (v17 : Value) (h18 : Heap) =>
 ∃ (a19 : Option Addr),
 ∃ (k20 : Nat), ∃ (k21 : Nat), ∃ (n22 : Int), v17 = Value.tuple (Array.mk [Value.slice a19 k20 k21, Value.int IntKind.i64 n22]) ∧ R (Value.bool (n22 == (5 : Int))) h18))) := by kernel_rfl

theorem vcCommit0 (h : Heap) (R : Value → Heap → Prop) :
    vcF Tryz.prog Tryz.f27 116 [24,25] [] [.pointer none, .map none] h R =
(∃ (a0 : Option Addr),
 Reads Tryz.prog (Instr.loadAt (36 : Nat) (Value.pointer (some (Addr.mk (Array.size h) (0 : Nat) none))))
 ((Array.push h (Obj.cells (Array.mk [Value.pointer none]) (36 : Nat))).push (Obj.cells (Array.mk [Value.int IntKind.i64 (0 : Int)]) (34 : Nat))) (Value.pointer a0) ∧
 ∃ (b1 : Bool),
 Reads Tryz.prog (eqSem BinOp.eql (36 : Nat) (Operand.tmp (16 : Nat)) (Operand.const (Value.pointer none)) (Value.pointer a0) (Value.pointer none))
 ((Array.push h (Obj.cells (Array.mk [Value.pointer none]) (36 : Nat))).push (Obj.cells (Array.mk [Value.int IntKind.i64 (0 : Int)]) (34 : Nat))) (Value.bool b1) ∧
 br b1
 (SVC Tryz.prog
 (Instr.storeAt (34 : Nat) (Value.pointer (some (Addr.mk (Array.push h (Obj.cells (Array.mk [Value.pointer none]) (36 : Nat))).size (0 : Nat) none))) (Value.int IntKind.i64 (2 : Int)))
 ((Array.push h (Obj.cells (Array.mk [Value.pointer none]) (36 : Nat))).push (Obj.cells (Array.mk [Value.int IntKind.i64 (0 : Int)]) (34 : Nat))) fun (x2 : Unit) (h3 : Heap) =>
 ∀ (h4 : Heap),
 Turn h3 h4 →
 ∃ (n5 : Int),
 Reads Tryz.prog (loadVar (34 : Nat) (Addr.mk (Array.push h (Obj.cells (Array.mk [Value.pointer none]) (36 : Nat))).size (0 : Nat) none)) h4 (Value.int IntKind.i64 n5) ∧
 R (Value.int IntKind.i64 n5) h4)
 (∃ (a6 : Option Addr),
 Reads Tryz.prog (Instr.loadAt (36 : Nat) (Value.pointer (some (Addr.mk (Array.size h) (0 : Nat) none))))
 ((Array.push h (Obj.cells (Array.mk [Value.pointer none]) (36 : Nat))).push (Obj.cells (Array.mk [Value.int IntKind.i64 (0 : Int)]) (34 : Nat))) (Value.pointer a6) ∧
 ∃ (p7 : Addr),
 a6 = some p7 ∧
 ∃ (a8 : Option Addr),
 Reads Tryz.prog (Instr.loadAt (32 : Nat) (Value.pointer (some p7)))
 ((Array.push h (Obj.cells (Array.mk [Value.pointer none]) (36 : Nat))).push (Obj.cells (Array.mk [Value.int IntKind.i64 (0 : Int)]) (34 : Nat))) (Value.pointer a8) ∧
 HC Tryz.prog (28 : Nat) (Array.mk [Value.pointer a8])
 ((Array.push h (Obj.cells (Array.mk [Value.pointer none]) (36 : Nat))).push (Obj.cells (Array.mk [Value.int IntKind.i64 (0 : Int)]) (34 : Nat)))
 fun (v9 : Value) (h10 : Heap) =>
 ∃ (b11 : Bool),
 v9 = Value.bool b11 ∧
 br b11
 (SVC Tryz.prog
 (Instr.storeAt (34 : Nat) (Value.pointer (some (Addr.mk (Array.push h (Obj.cells (Array.mk [Value.pointer none]) (36 : Nat))).size (0 : Nat) none)))
 (Value.int IntKind.i64 (8 : Int)))
 h10 fun (x12 : Unit) (h13 : Heap) =>
 ∀ (h14 : Heap),
 Turn h13 h14 →
 ∃ (n15 : Int),
 Reads Tryz.prog (loadVar (34 : Nat) (Addr.mk (Array.push h (Obj.cells (Array.mk [Value.pointer none]) (36 : Nat))).size (0 : Nat) none)) h14
 (Value.int IntKind.i64 n15) ∧
 R (Value.int IntKind.i64 n15) h14)
 (∃ (a16 : Option Addr),
 Reads Tryz.prog (Instr.loadAt (36 : Nat) (Value.pointer (some (Addr.mk (Array.size h) (0 : Nat) none)))) h10 (Value.pointer a16) ∧
 HC Tryz.prog (64 : Nat) (Array.mk [Value.pointer a16, Value.map none]) h10 fun (v17 : Value) (h18 : Heap) =>
 ∃ (n19 : Int),
 ∃ (n20 : Int),
 v17 = Value.tuple (Array.mk [Value.int IntKind.i64 n19, Value.int IntKind.i64 n20]) ∧
 ∃ (n21 : Int),
 ((!n20 != (0 : Int)) = true →
 Reads Tryz.prog (Builtin.len_ (Array.mk [(48 : Nat)]) (3 : Nat) (Array.mk [Value.map none])) h18 (Value.int IntKind.i64 n21)) ∧
 br (n20 != (0 : Int) || n21 == (0 : Int))
 (SVC Tryz.prog
 (Instr.storeAt (34 : Nat) (Value.pointer (some (Addr.mk (Array.push h (Obj.cells (Array.mk [Value.pointer none]) (36 : Nat))).size (0 : Nat) none)))
 (Value.int IntKind.i64 n20))
 h18 fun (x22 : Unit) (h23 : Heap) =>
 ∀ (h24 : Heap),
 Turn h23 h24 →
 ∃ (n25 : Int),
 Reads Tryz.prog (loadVar (34 : Nat) (Addr.mk (Array.push h (Obj.cells (Array.mk [Value.pointer none]) (36 : Nat))).size (0 : Nat) none)) h24
 (Value.int IntKind.i64 n25) ∧
 R (Value.int IntKind.i64 n25) h24)
 (∃ (n26 : Int),
 Reads Tryz.prog (Builtin.len_ (Array.mk [(48 : Nat)]) (3 : Nat) (Array.mk [Value.map none])) h18 (Value.int IntKind.i64 n26) ∧
 HC Tryz.prog (65 : Nat) (Array.mk [Value.slice none (0 : Nat) (0 : Nat), Value.int IntKind.i64 n26]) h18 fun (v27 : Value) (h28 : Heap) =>
 ∃ (a29 : Option Addr),
 ∃ (k30 : Nat),
 ∃ (k31 : Nat),
 v27 = Value.slice a29 k30 k31 ∧
 HC Tryz.prog (67 : Nat) (Array.mk [Value.map none]) h28 fun (v32 : Value) (h33 : Heap) =>
 ∃ (v34 : Value),
 v32 = v34 ∧
 HC Tryz.prog (66 : Nat) (Array.mk [v34]) h33 fun (v35 : Value) (h36 : Heap) =>
 ∃ (a37 : Option Addr),
 ∃ (k38 : Nat),
 ∃ (k39 : Nat),
 v35 = Value.slice a37 k38 k39 ∧
 ∃ (I40 : Option Addr → Nat → Nat → Int → Heap → Prop),
 ∃ (I41 : Option Addr → Nat → Nat → Int → Heap → Nat),
 I40 a29 k30 k31 (0 : Int) h36 ∧
 ∀ (a42 : Option Addr) (k43 k44 : Nat) (n45 : Int) (h46 : Heap),
 I40 a42 k43 k44 n45 h46 →
 br (decide (n45 < (↑k38 : Int)))
 (∃ (p47 : Addr),
 (a37 = some p47 ∧ (0 : Int) ≤ n45 ∧ n45 < (↑k38 : Int)) ∧
 ∃ (n48 : Int),
 Reads Tryz.prog (Instr.loadAt (3 : Nat) (Value.pointer (some (p47.add (n45.toNat * (1 : Nat)))))) h46
 (Value.int IntKind.i64 n48) ∧
 ∃ (I49 : Heap → Prop),
 I49 h46 ∧
 HC Tryz.prog (65 : Nat) (Array.mk [Value.slice a42 k43 k44, Value.int IntKind.i64 n48]) h46
 fun (v50 : Value) (h51 : Heap) =>
 ∃ (a52 : Option Addr),
 ∃ (k53 : Nat),
 ∃ (k54 : Nat),
 v50 = Value.slice a52 k53 k54 ∧
 I49 h51 ∧
 ∃ (a55 : Option Addr),
 ∃ (k56 : Nat),
 ∃ (k57 : Nat),
 (∀ (h58 : Heap),
 I49 h58 →
 Reads Tryz.prog
 (Instr.lookup (48 : Nat) (Value.map none) (Value.int IntKind.i64 n48)
 false)
 h58 (Value.slice a55 k56 k57)) ∧
 ∃ (s59 : ByteArray),
 (∀ (h60 : Heap),
 I49 h60 →
 Reads Tryz.prog
 (convert (22 : Nat) (9 : Nat) (Value.slice a55 k56 k57)) h60
 (Value.string s59)) ∧
 HC Tryz.prog (68 : Nat)
 (Array.mk [Value.slice a52 k53 k54, Value.string s59]) h51
 fun (v61 : Value) (h62 : Heap) =>
 ∃ (a63 : Option Addr),
 ∃ (k64 : Nat),
 ∃ (k65 : Nat),
 v61 = Value.slice a63 k64 k65 ∧
 I40 a63 k64 k65 (IntKind.i64.wrap (n45 + (1 : Int))) h62 ∧
 I41 a63 k64 k65 (IntKind.i64.wrap (n45 + (1 : Int))) h62 <
 I41 a42 k43 k44 n45 h46)
 (∃ (s66 : ByteArray),
 Reads Tryz.prog (convert (22 : Nat) (9 : Nat) (Value.slice a42 k43 k44)) h46 (Value.string s66) ∧
 HC Tryz.prog (69 : Nat) (Array.mk [Value.slice none (0 : Nat) (0 : Nat), Value.string s66]) h46
 fun (v67 : Value) (h68 : Heap) =>
 ∃ (a69 : Option Addr),
 ∃ (k70 : Nat),
 ∃ (k71 : Nat),
 v67 = Value.slice a69 k70 k71 ∧
 (512 : Int) ≠ (0 : Int) ∧
 ∃ (a72 : Option Addr),
 Reads Tryz.prog
 (Instr.loadAt (36 : Nat) (Value.pointer (some (Addr.mk (Array.size h) (0 : Nat) none))))
 h68 (Value.pointer a72) ∧
 ∃ (p73 : Addr),
 a72 = some p73 ∧
 ∃ (a74 : Option Addr),
 Reads Tryz.prog (Instr.loadAt (32 : Nat) (Value.pointer (some p73))) h68
 (Value.pointer a74) ∧
 HC Tryz.prog (24 : Nat) (Array.mk [Value.pointer a74]) h68
 fun (v75 : Value) (h76 : Heap) =>
 ∃ (n77 : Int),
 v75 = Value.int IntKind.i64 n77 ∧
 br
 (decide
 (n77 <
 IntKind.i64.wrap
 (IntKind.i64.wrap
 ((IntKind.i64.wrap
 (IntKind.i64.wrap ((↑k70 : Int) + (512 : Int)) -
 (1 : Int))).tdiv
 (512 : Int)) +
 n19)))
 (SVC Tryz.prog
 (Instr.storeAt (34 : Nat)
 (Value.pointer
 (some
 (Addr.mk
 (Array.push h
 (Obj.cells (Array.mk [Value.pointer none]) (36 : Nat))).size
 (0 : Nat) none)))
 (Value.int IntKind.i64 (7 : Int)))
 h76 fun (x78 : Unit) (h79 : Heap) =>
 ∀ (h80 : Heap),
 Turn h79 h80 →
 ∃ (n81 : Int),
 Reads Tryz.prog
 (loadVar (34 : Nat)
 (Addr.mk
 (Array.push h
 (Obj.cells (Array.mk [Value.pointer none])
 (36 : Nat))).size
 (0 : Nat) none))
 h80 (Value.int IntKind.i64 n81) ∧
 R (Value.int IntKind.i64 n81) h80)
 (SVC Tryz.prog
 (Instr.storeAt (3 : Nat)
 (Value.pointer (some (Addr.mk (Array.size h76) (0 : Nat) none)))
 (Value.int IntKind.i64 (0 : Int)))
 (Array.push h76
 (Obj.cells (Array.mk [Value.int IntKind.i64 (0 : Int)]) (3 : Nat)))
 fun (x82 : Unit) (h83 : Heap) =>
 ∃ (I84 : Heap → Prop),
 (HC Tryz.prog (70 : Nat)
 (Array.mk
 [Value.slice a69 k70 k71, Value.int IntKind.i64 (512 : Int)])
 h83 fun (v85 : Value) (h86 : Heap) =>
 ∃ (v87 : Value),
 v85 = v87 ∧
 ∃ (x88 : List (Option Addr × Nat × Nat)),
 ∃ (I89 : Heap → Prop),
 ∃ (I90 : Nat → Heap → Prop),
 ∃ (I91 : Heap → Prop),
 Gives Tryz.prog v87 I89 x88 ∧
 (∀ (k92 : Nat) (h93 : Heap),
 I90 k92 h93 → I89 h93) ∧
 (∀ (k94 : Nat) (h95 h96 : Heap),
 I90 k94 h95 → Turn h95 h96 → I90 k94 h96) ∧
 (∀ (h97 h98 : Heap),
 I91 h97 → Turn h97 h98 → I91 h98) ∧
 I90 (0 : Nat) h86 ∧
 (∀ (k99 : Nat) (a100 : Option Addr)
 (k101 k102 : Nat) (h103 : Heap),
 Nth x88 k99 (a100, k101, k102) →
 I90 k99 h103 →
 ∀ (h104 : Heap),
 Turn h103 h104 →
 ∃ (I105 : Heap → Prop),
 (∃ (I106 : Heap → Prop),
 I106 h104 ∧
 ∃ (a107 : Option Addr),
 (∀ (h108 : Heap),
 I106 h108 →
 Reads Tryz.prog
 (Instr.loadAt
 (36 : Nat)
 (Value.pointer
 (some
 (Addr.mk
 (Array.size
 h)
 (0 :
 Nat)
 none))))
 h108
 (Value.pointer
 a107)) ∧
 ∃ (p109 : Addr),
 a107 = some p109 ∧
 ∃ (a110 :
 Option Addr),
 (∀
 (h111 :
 Heap),
 I106
 h111 →
 Reads
 Tryz.prog
 (Instr.loadAt
 (32 :
 Nat)
 (Value.pointer
 (some
 p109)))
 h111
 (Value.pointer
 a110)) ∧
 ∃ (a112 :
 Option
 Addr),
 Reads
 Tryz.prog
 (Instr.loadAt
 (36 :
 Nat)
 (Value.pointer
 (some
 (Addr.mk
 (Array.size
 h)
 (0 :
 Nat)
 none))))
 h104
 (Value.pointer
 a112) ∧
 HC
 Tryz.prog
 (57 :
 Nat)
 (Array.mk
 [Value.pointer
 a112])
 h104
 fun
 (v113 :
 Value)
 (h114 :
 Heap) =>
 ∃
 (s115
 :
 ByteArray),
 v113 =
 Value.string
 s115 ∧
 I106
 h114 ∧
 ∃
 (n116
 :
 Int),
 (∀
 (h117 :
 Heap),
 I106
 h117 →
 Reads
 Tryz.prog
 (Instr.loadAt
 (3 :
 Nat)
 (Value.pointer
 (some
 (Addr.mk
 (Array.size
 h76)
 (0 :
 Nat)
 none))))
 h117
 (Value.int
 IntKind.i64
 n116)) ∧
 HC
 Tryz.prog
 (17 :
 Nat)
 (Array.mk
 [Value.pointer
 a110,
 Value.string
 s115,
 Value.int
 IntKind.i64
 n116,
 Value.slice
 a100
 k101
 k102])
 h114
 fun
 (v118 :
 Value)
 (h119 :
 Heap) =>
 ∃
 (n120
 :
 Int),
 v118 =
 Value.int
 IntKind.i64
 n120 ∧
 br
 (n120 !=
 (0 :
 Int))
 (SVC
 Tryz.prog
 (Instr.storeAt
 (34 :
 Nat)
 (Value.pointer
 (some
 (Addr.mk
 (Array.push
 h
 (Obj.cells
 (Array.mk
 [Value.pointer
 none])
 (36 :
 Nat))).size
 (0 :
 Nat)
 none)))
 (Value.int
 IntKind.i64
 n120))
 h119
 fun
 (x121 :
 Unit)
 (h122 :
 Heap) =>
 I91
 h122)
 (I105
 h119)) ∧
 ∀ (h123 : Heap),
 I105 h123 →
 ∃ (n124 : Int),
 Reads Tryz.prog
 (Instr.loadAt
 (3 : Nat)
 (Value.pointer
 (some
 (Addr.mk
 (Array.size
 h76)
 (0 : Nat)
 none))))
 h123
 (Value.int
 IntKind.i64
 n124) ∧
 SVC Tryz.prog
 (Instr.storeAt
 (3 : Nat)
 (Value.pointer
 (some
 (Addr.mk
 (Array.size
 h76)
 (0 : Nat)
 none)))
 (Value.int
 IntKind.i64
 (IntKind.i64.wrap
 (n124 +
 (1 :
 Int)))))
 h123
 fun (x125 : Unit)
 (h126 : Heap) =>
 I90
 (k99 +
 (1 : Nat))
 h126) ∧
 (∀ (h127 : Heap),
 I90 x88.length h127 → I84 h127) ∧
 ∀ (h128 : Heap),
 I91 h128 →
 ∀ (h129 : Heap),
 Turn h128 h129 →
 ∃ (n130 : Int),
 Reads Tryz.prog
 (loadVar (34 : Nat)
 (Addr.mk
 (Array.push h
 (Obj.cells
 (Array.mk
 [Value.pointer
 none])
 (36 :
 Nat))).size
 (0 : Nat) none))
 h129
 (Value.int IntKind.i64
 n130) ∧
 R
 (Value.int IntKind.i64
 n130)
 h129) ∧
 ∀ (h131 : Heap),
 I84 h131 →
 ∃ (I132 : Heap → Prop),
 I132 h131 ∧
 ∃ (a133 : Option Addr),
 (∀ (h134 : Heap),
 I132 h134 →
 Reads Tryz.prog
 (Instr.loadAt (36 : Nat)
 (Value.pointer
 (some
 (Addr.mk (Array.size h) (0 : Nat) none))))
 h134 (Value.pointer a133)) ∧
 ∃ (p135 : Addr),
 a133 = some p135 ∧
 ∃ (a136 : Option Addr),
 (∀ (h137 : Heap),
 I132 h137 →
 Reads Tryz.prog
 (Instr.loadAt (32 : Nat)
 (Value.pointer (some p135)))
 h137 (Value.pointer a136)) ∧
 ∃ (a138 : Option Addr),
 Reads Tryz.prog
 (Instr.loadAt (36 : Nat)
 (Value.pointer
 (some
 (Addr.mk (Array.size h) (0 : Nat)
 none))))
 h131 (Value.pointer a138) ∧
 HC Tryz.prog (57 : Nat)
 (Array.mk [Value.pointer a138]) h131
 fun (v139 : Value) (h140 : Heap) =>
 ∃ (s141 : ByteArray),
 v139 = Value.string s141 ∧
 I132 h140 ∧
 HC Tryz.prog (71 : Nat)
 (Array.mk
 [Value.pointer a136,
 Value.string s141])
 h140
 fun (v142 : Value)
 (h143 : Heap) =>
 ∃ (n144 : Int),
 v142 =
 Value.int IntKind.i64 n144 ∧
 br (n144 != (0 : Int))
 (SVC Tryz.prog
 (Instr.storeAt (34 : Nat)
 (Value.pointer
 (some
 (Addr.mk
 (Array.push h
 (Obj.cells
 (Array.mk
 [Value.pointer
 none])
 (36 :
 Nat))).size
 (0 : Nat) none)))
 (Value.int IntKind.i64
 n144))
 h143
 fun (x145 : Unit)
 (h146 : Heap) =>
 ∀ (h147 : Heap),
 Turn h146 h147 →
 ∃ (n148 : Int),
 Reads Tryz.prog
 (loadVar
 (34 : Nat)
 (Addr.mk
 (Array.push
 h
 (Obj.cells
 (Array.mk
 [Value.pointer
 none])
 (36 :
 Nat))).size
 (0 : Nat)
 none))
 h147
 (Value.int
 IntKind.i64
 n148) ∧
 R
 (Value.int
 IntKind.i64
 n148)
 h147)
 (∃ (I149 : Heap → Prop),
 I149 h143 ∧
 ∃ (a150 : Option Addr),
 (∀ (h151 : Heap),
 I149 h151 →
 Reads Tryz.prog
 (Instr.loadAt
 (36 : Nat)
 (Value.pointer
 (some
 (Addr.mk
 (Array.size
 h)
 (0 :
 Nat)
 none))))
 h151
 (Value.pointer
 a150)) ∧
 ∃ (p152 : Addr),
 a150 = some p152 ∧
 ∃ (a153 :
 Option Addr),
 (∀
 (h154 :
 Heap),
 I149
 h154 →
 Reads
 Tryz.prog
 (Instr.loadAt
 (32 :
 Nat)
 (Value.pointer
 (some
 p152)))
 h154
 (Value.pointer
 a153)) ∧
 ∃ (a155 :
 Option
 Addr),
 Reads
 Tryz.prog
 (Instr.loadAt
 (36 :
 Nat)
 (Value.pointer
 (some
 (Addr.mk
 (Array.size
 h)
 (0 :
 Nat)
 none))))
 h143
 (Value.pointer
 a155) ∧
 HC
 Tryz.prog
 (57 :
 Nat)
 (Array.mk
 [Value.pointer
 a155])
 h143
 fun
 (v156 :
 Value)
 (h157 :
 Heap) =>
 ∃
 (s158
 :
 ByteArray),
 v156 =
 Value.string
 s158 ∧
 I149
 h157 ∧
 ∃
 (a159
 :
 Option
 Addr),
 (∀
 (h160 :
 Heap),
 I149
 h160 →
 Reads
 Tryz.prog
 (Instr.loadAt
 (36 :
 Nat)
 (Value.pointer
 (some
 (Addr.mk
 (Array.size
 h)
 (0 :
 Nat)
 none))))
 h160
 (Value.pointer
 a159)) ∧
 HC
 Tryz.prog
 (59 :
 Nat)
 (Array.mk
 [Value.pointer
 a159])
 h157
 fun
 (v161 :
 Value)
 (h162 :
 Heap) =>
 ∃
 (s163
 :
 ByteArray),
 v161 =
 Value.string
 s163 ∧
 I149
 h162 ∧
 HC
 Tryz.prog
 (72 :
 Nat)
 (Array.mk
 [Value.pointer
 a153,
 Value.string
 s158,
 Value.string
 s163])
 h162
 fun
 (v164 :
 Value)
 (h165 :
 Heap) =>
 ∃
 (n166
 :
 Int),
 v164 =
 Value.int
 IntKind.i64
 n166 ∧
 br
 (n166 !=
 (0 :
 Int))
 (SVC
 Tryz.prog
 (Instr.storeAt
 (34 :
 Nat)
 (Value.pointer
 (some
 (Addr.mk
 (Array.push
 h
 (Obj.cells
 (Array.mk
 [Value.pointer
 none])
 (36 :
 Nat))).size
 (0 :
 Nat)
 none)))
 (Value.int
 IntKind.i64
 n166))
 h165
 fun
 (x167 :
 Unit)
 (h168 :
 Heap) =>
 ∀
 (h169 :
 Heap),
 Turn
 h168
 h169 →
 ∃
 (n170
 :
 Int),
 Reads
 Tryz.prog
 (loadVar
 (34 :
 Nat)
 (Addr.mk
 (Array.push
 h
 (Obj.cells
 (Array.mk
 [Value.pointer
 none])
 (36 :
 Nat))).size
 (0 :
 Nat)
 none))
 h169
 (Value.int
 IntKind.i64
 n170) ∧
 R
 (Value.int
 IntKind.i64
 n170)
 h169)
 (∃
 (a171
 :
 Option
 Addr),
 Reads
 Tryz.prog
 (Instr.loadAt
 (36 :
 Nat)
 (Value.pointer
 (some
 (Addr.mk
 (Array.size
 h)
 (0 :
 Nat)
 none))))
 h165
 (Value.pointer
 a171) ∧
 HC
 Tryz.prog
 (73 :
 Nat)
 (Array.mk
 [Value.pointer
 a171,
 Value.map
 none])
 h165
 fun
 (v172 :
 Value)
 (h173 :
 Heap) =>
 ∃
 (n174
 :
 Int),
 v172 =
 Value.int
 IntKind.i64
 n174 ∧
 SVC
 Tryz.prog
 (Instr.storeAt
 (34 :
 Nat)
 (Value.pointer
 (some
 (Addr.mk
 (Array.push
 h
 (Obj.cells
 (Array.mk
 [Value.pointer
 none])
 (36 :
 Nat))).size
 (0 :
 Nat)
 none)))
 (Value.int
 IntKind.i64
 n174))
 h173
 fun
 (x175 :
 Unit)
 (h176 :
 Heap) =>
 ∀
 (h177 :
 Heap),
 Turn
 h176
 h177 →
 ∃
 (n178
 :
 Int),
 Reads
 Tryz.prog
 (loadVar
 (34 :
 Nat)
 (Addr.mk
 (Array.push
 h
 (Obj.cells
 (Array.mk
 [Value.pointer
 none])
 (36 :
 Nat))).size
 (0 :
 Nat)
 none))
 h177
 (Value.int
 IntKind.i64
 n178) ∧
 R
 (Value.int
 IntKind.i64
 n178)
 h177)))))))) := by kernel_rfl

theorem vcPCount0 (h : Heap) (R : Value → Heap → Prop) :
    vcF Tryz.prog Tryz.f30 14 [] [] [.pointer none] h R =
(∃ (b0 : Bool),
 Reads Tryz.prog (eqSem BinOp.eql (36 : Nat) (Operand.tmp (3 : Nat)) (Operand.const (Value.pointer none)) (Value.pointer none) (Value.pointer none)) h (Value.bool b0) ∧
 br b0 (R (Value.int IntKind.i64 (0 : Int)) h)
 (∃ (p1 : Addr),
 none = some p1 ∧
 ∃ (a2 : Option Addr),
 Reads Tryz.prog (Instr.loadAt (32 : Nat) (Value.pointer (some p1))) h (Value.pointer a2) ∧
 ∃ (p3 : Addr),
 none = some p3 ∧
 ∃ (s4 : ByteArray),
 Reads Tryz.prog (Instr.loadAt (9 : Nat) (Value.pointer (some (p3.add (1 : Nat))))) h (Value.string s4) ∧
 HC Tryz.prog (74 : Nat) (Array.mk [Value.pointer a2, Value.string s4]) h fun (v5 : Value) (h6 : Heap) =>
 ∃ (n7 : Int), v5 = Value.int IntKind.i64 n7 ∧ R (Value.int IntKind.i64 n7) h6)) := by kernel_rfl

theorem vcPRead0 (i : Int) (h : Heap) (R : Value → Heap → Prop) :
    vcF Tryz.prog Tryz.f61 20 [] [] [.pointer none, .int .i64 i] h R =
(∃ (b0 : Bool),
 Reads Tryz.prog (eqSem BinOp.eql (36 : Nat) (Operand.tmp (6 : Nat)) (Operand.const (Value.pointer none)) (Value.pointer none) (Value.pointer none)) h (Value.bool b0) ∧
 br b0 (R (Value.tuple (Array.mk [Value.slice none (0 : Nat) (0 : Nat), Value.int IntKind.i64 (2 : Int)])) h)
 (∃ (p1 : Addr),
 none = some p1 ∧
 ∃ (a2 : Option Addr),
 Reads Tryz.prog (Instr.loadAt (32 : Nat) (Value.pointer (some p1))) h (Value.pointer a2) ∧
 ∃ (p3 : Addr),
 none = some p3 ∧
 ∃ (s4 : ByteArray),
 Reads Tryz.prog (Instr.loadAt (9 : Nat) (Value.pointer (some (p3.add (1 : Nat))))) h (Value.string s4) ∧
 HC Tryz.prog (94 : Nat) (Array.mk [Value.pointer a2, Value.string s4, Value.int IntKind.i64 i]) h fun (v5 : Value) (h6 : Heap) =>
 ∃ (a7 : Option Addr),
 ∃ (k8 : Nat),
 ∃ (k9 : Nat),
 ∃ (n10 : Int),
 v5 = Value.tuple (Array.mk [Value.slice a7 k8 k9, Value.int IntKind.i64 n10]) ∧ R (Value.tuple (Array.mk [Value.slice a7 k8 k9, Value.int IntKind.i64 n10])) h6)) := by kernel_rfl

theorem vcOpen0 (s : ByteArray) (h : Heap) (R : Value → Heap → Prop) :
    vcF Tryz.prog Tryz.f18 38 [10] [] [.pointer none, .string s] h R =
(∃ (b0 : Bool),
 Reads Tryz.prog (eqSem BinOp.eql (32 : Nat) (Operand.tmp (9 : Nat)) (Operand.const (Value.pointer none)) (Value.pointer none) (Value.pointer none)) h (Value.bool b0) ∧
 br b0 (R (Value.tuple (Array.mk [Value.pointer none, Value.int IntKind.i64 (2 : Int)])) h)
 (HC Tryz.prog (28 : Nat) (Array.mk [Value.pointer none]) (Array.push h (Obj.cells (Array.mk [Value.pointer none, Value.string s]) (108 : Nat))) fun (v1 : Value) (h2 : Heap) =>
 ∃ (b3 : Bool),
 v1 = Value.bool b3 ∧
 br b3 (R (Value.tuple (Array.mk [Value.pointer none, Value.int IntKind.i64 (8 : Int)])) h2)
 (∃ (I4 : Option Addr → Int → Heap → Prop),
 (HC Tryz.prog (57 : Nat) (Array.mk [Value.pointer (some (Addr.mk (Array.size h) (0 : Nat) none))]) h2 fun (v5 : Value) (h6 : Heap) =>
 ∃ (s7 : ByteArray),
 v5 = Value.string s7 ∧
 HC Tryz.prog (56 : Nat) (Array.mk [Value.pointer none, Value.string s7]) h6 fun (v8 : Value) (h9 : Heap) =>
 ∃ (b10 : Bool),
 v8 = Value.bool b10 ∧
 br b10
 (HC Tryz.prog (57 : Nat) (Array.mk [Value.pointer (some (Addr.mk (Array.size h) (0 : Nat) none))]) h9 fun (v11 : Value) (h12 : Heap) =>
 ∃ (s13 : ByteArray),
 v11 = Value.string s13 ∧
 HC Tryz.prog (58 : Nat) (Array.mk [Value.pointer none, Value.string s13]) h12 fun (v14 : Value) (h15 : Heap) =>
 ∃ (n16 : Int),
 v14 = Value.int IntKind.i64 n16 ∧
 br (n16 != (0 : Int)) (R (Value.tuple (Array.mk [Value.pointer none, Value.int IntKind.i64 n16])) h15) (I4 none (0 : Int) h15))
 (I4 none (0 : Int) h9)) ∧
 ∀ (a17 : Option Addr) (n18 : Int) (h19 : Heap),
 I4 a17 n18 h19 →
 HC Tryz.prog (59 : Nat) (Array.mk [Value.pointer (some (Addr.mk (Array.size h) (0 : Nat) none))]) h19 fun (v20 : Value) (h21 : Heap) =>
 ∃ (s22 : ByteArray),
 v20 = Value.string s22 ∧
 HC Tryz.prog (56 : Nat) (Array.mk [Value.pointer none, Value.string s22]) h21 fun (v23 : Value) (h24 : Heap) =>
 ∃ (b25 : Bool),
 v23 = Value.bool b25 ∧
 br b25
 (HC Tryz.prog (60 : Nat) (Array.mk [Value.pointer (some (Addr.mk (Array.size h) (0 : Nat) none))]) h24 fun (v26 : Value) (h27 : Heap) =>
 ∃ (n28 : Int),
 v26 = Value.int IntKind.i64 n28 ∧
 br (n28 != (0 : Int)) (R (Value.tuple (Array.mk [Value.pointer none, Value.int IntKind.i64 n28])) h27)
 (R (Value.tuple (Array.mk [Value.pointer (some (Addr.mk (Array.size h) (0 : Nat) none)), Value.int IntKind.i64 (0 : Int)])) h27))
 (R (Value.tuple (Array.mk [Value.pointer (some (Addr.mk (Array.size h) (0 : Nat) none)), Value.int IntKind.i64 (0 : Int)])) h24)))) := by kernel_rfl
end Go.Proofs.YthkhaobmhheoaaaGreat
end
