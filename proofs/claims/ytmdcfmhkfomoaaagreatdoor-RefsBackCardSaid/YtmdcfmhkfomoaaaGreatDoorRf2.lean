/-
  What a call of each function comes to, as the symbolic run tells it: by the kernel's own reckoning. Conditions: none.
-/
import Derived.Test.YtmdcfmhkfomoaaaGreatDoorVcE
import Derived.Test.YtmdcfmhkfomoaaaGreatDoorProg
import Derived.KernelRfl
set_option linter.unusedVariables false
set_option maxRecDepth 100000
namespace Go.Proofs.YtmdcfmhkfomoaaaGreatDoor
open Go Go.Vc Go.Proofs

theorem vc14Size (k : Int) (h : Heap) (R : Value → Heap → Prop) :
    vcF Tryz.prog Tryz.f32 7 [] [] [.int .u8 k] h R =
(br (k == (1 : Int)) (R (Value.int IntKind.i64 (8 : Int)) h) (br (k == (2 : Int)) (R (Value.int IntKind.i64 (32 : Int)) h) (R (Value.int IntKind.i64 (0 : Int)) h))) := by kernel_rfl

theorem vc14Name (x : Array Value) (h : Heap) (R : Value → Heap → Prop) :
    vcF Tryz.prog Tryz.f11 34 [] [] [.agg x] h R =
(∃ (n0 : Int),
 Reads Tryz.prog (Instr.loadAt (5 : Nat) (Value.pointer (some (Addr.mk (Array.size h) (0 : Nat) none)))) (Array.push h (Obj.cells x (24 : Nat))) (Value.int IntKind.u8 n0) ∧
 HC Tryz.prog (32 : Nat) (Array.mk [Value.int IntKind.u8 n0]) (Array.push h (Obj.cells x (24 : Nat))) fun (v1 : Value) (h2 : Heap) =>
 ∃ (n3 : Int),
 v1 = Value.int IntKind.i64 n3 ∧
 ∃ (n4 : Int),
 Reads Tryz.prog (Instr.loadAt (5 : Nat) (Value.pointer (some (Addr.mk (Array.size h) (0 : Nat) none)))) h2 (Value.int IntKind.u8 n4) ∧
 SVC Tryz.prog (Instr.buildSlice (42 : Nat) (1 : Nat) (Array.mk [((0 : Nat), Value.int IntKind.u8 n4)])) h2 fun (v5 : Value) (h6 : Heap) =>
 ∃ (a7 : Option Addr),
 ∃ (k8 : Nat),
 ∃ (k9 : Nat),
 v5 = Value.slice a7 k8 k9 ∧
 ∃ (s10 : ByteArray),
 Reads Tryz.prog (convert (42 : Nat) (9 : Nat) (Value.slice a7 k8 k9)) h6 (Value.string s10) ∧
 ∃ (h11 : Array Value),
 Reads Tryz.prog (Instr.loadAt (22 : Nat) (Value.pointer (some ((Addr.mk (Array.size h) (0 : Nat) none).add (1 : Nat))))) h6 (Value.agg h11) ∧
 ∃ (I12 : ByteArray → ByteArray → Int → Heap → Prop),
 ∃ (I13 : ByteArray → ByteArray → Int → Heap → Nat),
 I12 (ByteArray.mk (Array.mk [])) s10 (0 : Int) h6 ∧
 ∀ (s14 s15 : ByteArray) (n16 : Int) (h17 : Heap),
 I12 s14 s15 n16 h17 →
 br (decide (n16 < (32 : Int)))
 (((0 : Int) ≤ n16 ∧ n16 < (↑(32 : Nat) : Int)) ∧
 ∃ (n18 : Int),
 h11[n16.toNat * (1 : Nat)]? = some (Value.int IntKind.u8 n18) ∧
 br (decide (n16 < n3))
 (SVC Tryz.prog (Instr.buildSlice (42 : Nat) (1 : Nat) (Array.mk [((0 : Nat), Value.int IntKind.u8 n18)])) h17 fun (v21 : Value) (h22 : Heap) =>
 ∃ (a23 : Option Addr),
 ∃ (k24 : Nat),
 ∃ (k25 : Nat),
 v21 = Value.slice a23 k24 k25 ∧
 ∃ (s26 : ByteArray),
 Reads Tryz.prog (convert (42 : Nat) (9 : Nat) (Value.slice a23 k24 k25)) h22 (Value.string s26) ∧
 (↑(s15.size + s26.size) : Int) ≤ IntKind.i64.max ∧
 I12 s14 (s15 ++ s26) (IntKind.i64.wrap (n16 + (1 : Int))) h22 ∧
 I13 s14 (s15 ++ s26) (IntKind.i64.wrap (n16 + (1 : Int))) h22 < I13 s14 s15 n16 h17)
 (br (n18 != (0 : Int)) (R (Value.string (ByteArray.mk (Array.mk []))) h17)
 (I12 s14 s15 (IntKind.i64.wrap (n16 + (1 : Int))) h17 ∧ I13 s14 s15 (IntKind.i64.wrap (n16 + (1 : Int))) h17 < I13 s14 s15 n16 h17)))
 (br (n3 == (0 : Int)) (R (Value.string (ByteArray.mk (Array.mk []))) h17) (R (Value.string s15) h17))) := by kernel_rfl

theorem vc14Id (s : ByteArray) (h : Heap) (R : Value → Heap → Prop) :
    vcF Tryz.prog Tryz.f43 25 [] [] [.string s] h R =
(∃ (h0 : Array Value),
 IsZ Tryz.prog (24 : Nat) h0 ∧
 ∃ (h1 : Array Value),
 IsZ Tryz.prog (24 : Nat) h1 ∧
 br (s.toList == [])
 (∃ (h2 : Array Value),
 Reads Tryz.prog (Instr.loadAt (24 : Nat) (Value.pointer (some (Addr.mk (Array.push h (Obj.cells h0 (24 : Nat))).size (0 : Nat) none))))
 ((Array.push h (Obj.cells h0 (24 : Nat))).push (Obj.cells h1 (24 : Nat))) (Value.agg h2) ∧
 SVC Tryz.prog (Instr.storeAt (24 : Nat) (Value.pointer (some (Addr.mk (Array.size h) (0 : Nat) none))) (Value.agg h2))
 ((Array.push h (Obj.cells h0 (24 : Nat))).push (Obj.cells h1 (24 : Nat))) fun (x3 : Unit) (h4 : Heap) =>
 ∃ (h5 : Array Value), Reads Tryz.prog (loadVar (24 : Nat) (Addr.mk (Array.size h) (0 : Nat) none)) h4 (Value.agg h5) ∧ R (Value.agg h5) h4)
 (((0 : Int) ≤ (0 : Int) ∧ (0 : Int) < (↑s.size : Int)) ∧
 SVC Tryz.prog (Instr.storeAt (5 : Nat) (Value.pointer (some (Addr.mk (Array.push h (Obj.cells h0 (24 : Nat))).size (0 : Nat) none))) (Value.int IntKind.u8 (byteAt s (0 : Int))))
 ((Array.push h (Obj.cells h0 (24 : Nat))).push (Obj.cells h1 (24 : Nat))) fun (x6 : Unit) (h7 : Heap) =>
 ∃ (I8 : Int → Heap → Prop),
 ∃ (I9 : Int → Heap → Nat),
 I8 (1 : Int) h7 ∧
 ∀ (n10 : Int) (h11 : Heap),
 I8 n10 h11 →
 br (decide (n10 < (↑s.size : Int)))
 (((0 : Int) ≤ n10 ∧ n10 < (↑s.size : Int)) ∧
 ((0 : Int) ≤ IntKind.i64.wrap (n10 - (1 : Int)) ∧ IntKind.i64.wrap (n10 - (1 : Int)) < (↑(32 : Nat) : Int)) ∧
 SVC Tryz.prog
 (Instr.storeAt (5 : Nat)
 (Value.pointer
 (some (((Addr.mk (Array.push h (Obj.cells h0 (24 : Nat))).size (0 : Nat) none).add (1 : Nat)).add ((IntKind.i64.wrap (n10 - (1 : Int))).toNat * (1 : Nat)))))
 (Value.int IntKind.u8 (byteAt s n10)))
 h11 fun (x12 : Unit) (h13 : Heap) => I8 (IntKind.i64.wrap (n10 + (1 : Int))) h13 ∧ I9 (IntKind.i64.wrap (n10 + (1 : Int))) h13 < I9 n10 h11)
 (∃ (h14 : Array Value),
 Reads Tryz.prog (Instr.loadAt (24 : Nat) (Value.pointer (some (Addr.mk (Array.push h (Obj.cells h0 (24 : Nat))).size (0 : Nat) none)))) h11 (Value.agg h14) ∧
 SVC Tryz.prog (Instr.storeAt (24 : Nat) (Value.pointer (some (Addr.mk (Array.size h) (0 : Nat) none))) (Value.agg h14)) h11 fun (x15 : Unit) (h16 : Heap) =>
 ∃ (h17 : Array Value), Reads Tryz.prog (loadVar (24 : Nat) (Addr.mk (Array.size h) (0 : Nat) none)) h16 (Value.agg h17) ∧ R (Value.agg h17) h16))) := by kernel_rfl

theorem vc14Of (k : Int) (s : ByteArray) (h : Heap) (R : Value → Heap → Prop) :
    vcF Tryz.prog Tryz.f29 9 [] [] [.int .u8 k, .string s] h R =
(∃ (h0 : Array Value),
 IsZ Tryz.prog (24 : Nat) h0 ∧
 HC Tryz.prog (44 : Nat) (Array.mk [Value.int IntKind.u8 k, Value.string s]) (Array.push h (Obj.cells h0 (24 : Nat))) fun (v1 : Value) (h2 : Heap) =>
 ∃ (s3 : ByteArray),
 v1 = Value.string s3 ∧
 HC Tryz.prog (43 : Nat) (Array.mk [Value.string s3]) h2 fun (v4 : Value) (h5 : Heap) =>
 ∃ (h6 : Array Value),
 v4 = Value.agg h6 ∧
 SVC Tryz.prog (Instr.storeAt (24 : Nat) (Value.pointer (some (Addr.mk (Array.size h) (0 : Nat) none))) (Value.agg h6)) h5 fun (x7 : Unit) (h8 : Heap) =>
 ∃ (h9 : Array Value), Reads Tryz.prog (loadVar (24 : Nat) (Addr.mk (Array.size h) (0 : Nat) none)) h8 (Value.agg h9) ∧ R (Value.agg h9) h8) := by kernel_rfl

theorem vc14Text1 (s : ByteArray) (h : Heap) (R : Value → Heap → Prop) :
    vcF Tryz.prog Tryz.f44 20 [] [] [.int .u8 1, .string s] h R =
(HC Tryz.prog (54 : Nat) (Array.mk [Value.string s]) h fun (v0 : Value) (h1 : Heap) =>
 ∃ (n2 : Int),
 v0 = Value.int IntKind.u64 n2 ∧
 HC Tryz.prog (53 : Nat) (Array.mk [Value.int IntKind.u64 n2]) h1 fun (v3 : Value) (h4 : Heap) =>
 ∃ (s5 : ByteArray), v3 = Value.string s5 ∧ (↑((1 : Nat) + s5.size) : Int) ≤ IntKind.i64.max ∧ R (Value.string (ByteArray.mk (Array.mk [(1 : UInt8)]) ++ s5)) h4) := by kernel_rfl

theorem vc02Sum (s : ByteArray) (h : Heap) (R : Value → Heap → Prop) :
    vcF Tryz.prog Tryz.f54 17 [] [] [.string s] h R =
(∃ (I0 : Int → Int → Heap → Prop),
 ∃ (I1 : Int → Int → Heap → Nat),
 I0 (14695981039346656037 : Int) (0 : Int) h ∧
 ∀ (n2 n3 : Int) (h4 : Heap),
 I0 n2 n3 h4 →
 br (decide (n3 < (↑s.size : Int)))
 (((0 : Int) ≤ n3 ∧ n3 < (↑s.size : Int)) ∧
 HC Tryz.prog (63 : Nat) (Array.mk [Value.int IntKind.u64 n2, Value.int IntKind.u8 (byteAt s n3)]) h4 fun (v5 : Value) (h6 : Heap) =>
 ∃ (n7 : Int), v5 = Value.int IntKind.u64 n7 ∧ I0 n7 (IntKind.i64.wrap (n3 + (1 : Int))) h6 ∧ I1 n7 (IntKind.i64.wrap (n3 + (1 : Int))) h6 < I1 n2 n3 h4)
 (R (Value.int IntKind.u64 n2) h4)) := by kernel_rfl

theorem vc02Step (s c : Int) (h : Heap) (R : Value → Heap → Prop) :
    vcF Tryz.prog Tryz.f63 25 [] [] [.int .u64 s, .int .u8 c] h R =
((256 : Int) ≠ (0 : Int) ∧
 (256 : Int) ≠ (0 : Int) ∧
 (0 : Int) ≤ (40 : Int) ∧
 (0 : Int) ≤ (8 : Int) ∧
 R
 (Value.int IntKind.u64
 (IntKind.u64.wrap
 (IntKind.u64.wrap
 (IntKind.u64.wrap
 (IntKind.u64.wrap
 (IntKind.u64.wrap (s - s.tmod (256 : Int)) +
 IntKind.u64.wrap (IntKind.u8.wrap (↑(BitVec.ofInt (8 : Nat) (IntKind.u8.wrap (s.tmod (256 : Int))) ^^^ BitVec.ofInt (8 : Nat) c).toNat : Int))) *
 (2 : Int) ^ (40 : Nat)) +
 IntKind.u64.wrap
 (IntKind.u64.wrap
 (IntKind.u64.wrap (s - s.tmod (256 : Int)) +
 IntKind.u64.wrap (IntKind.u8.wrap (↑(BitVec.ofInt (8 : Nat) (IntKind.u8.wrap (s.tmod (256 : Int))) ^^^ BitVec.ofInt (8 : Nat) c).toNat : Int))) *
 (2 : Int) ^ (8 : Nat))) +
 IntKind.u64.wrap
 (IntKind.u64.wrap
 (IntKind.u64.wrap (s - s.tmod (256 : Int)) +
 IntKind.u64.wrap (IntKind.u8.wrap (↑(BitVec.ofInt (8 : Nat) (IntKind.u8.wrap (s.tmod (256 : Int))) ^^^ BitVec.ofInt (8 : Nat) c).toNat : Int))) *
 (179 : Int)))))
 h) := by kernel_rfl

theorem vc02Bytes (s : Int) (h : Heap) (R : Value → Heap → Prop) :
    vcF Tryz.prog Tryz.f53 18 [] [] [.int .u64 s] h R =
(∃ (h0 : Array Value),
 IsZ Tryz.prog (134 : Nat) h0 ∧
 ∃ (I1 : Int → Int → Heap → Prop),
 ∃ (I2 : Int → Int → Heap → Nat),
 I1 s (7 : Int) (Array.push h (Obj.cells h0 (134 : Nat))) ∧
 ∀ (n3 n4 : Int) (h5 : Heap),
 I1 n3 n4 h5 →
 br (decide (n4 ≥ (0 : Int)))
 ((256 : Int) ≠ (0 : Int) ∧
 ((0 : Int) ≤ n4 ∧ n4 < (↑(8 : Nat) : Int)) ∧
 SVC Tryz.prog
 (Instr.storeAt (5 : Nat) (Value.pointer (some ((Addr.mk (Array.size h) (0 : Nat) none).add (n4.toNat * (1 : Nat)))))
 (Value.int IntKind.u8 (IntKind.u8.wrap (n3.tmod (256 : Int)))))
 h5 fun (x6 : Unit) (h7 : Heap) =>
 (256 : Int) ≠ (0 : Int) ∧
 I1 (IntKind.u64.wrap (n3.tdiv (256 : Int))) (IntKind.i64.wrap (n4 - (1 : Int))) h7 ∧
 I2 (IntKind.u64.wrap (n3.tdiv (256 : Int))) (IntKind.i64.wrap (n4 - (1 : Int))) h7 < I2 n3 n4 h5)
 (((0 : Int) ≤ (0 : Int) ∧ (0 : Int) ≤ (↑(8 : Nat) : Int) ∧ (↑(8 : Nat) : Int) ≤ (↑(8 : Nat) : Int) ∧ (↑(8 : Nat) : Int) ≤ (↑(8 : Nat) : Int)) ∧
 ∃ (s8 : ByteArray),
 Reads Tryz.prog (convert (42 : Nat) (9 : Nat) (Value.slice (subA (some (Addr.mk (Array.size h) (0 : Nat) none)) (0 : Nat) (8 : Nat) (1 : Nat)) (8 : Nat) (8 : Nat))) h5
 (Value.string s8) ∧
 R (Value.string s8) h5)) := by kernel_rfl

theorem vc18Good (s : ByteArray) (h : Heap) (R : Value → Heap → Prop) :
    vcF Tryz.prog Tryz.f13 45 [] [] [.string s] h R =
(br (s.toList == [] || decide ((↑s.size : Int) > (16 : Int))) (R (Value.bool false) h)
 (∃ (I0 : Bool → Int → Heap → Prop),
 ∃ (I1 : Bool → Int → Heap → Nat),
 I0 false (0 : Int) h ∧
 ∀ (b2 : Bool) (n3 : Int) (h4 : Heap),
 I0 b2 n3 h4 →
 br (decide (n3 < (↑s.size : Int)))
 (((0 : Int) ≤ n3 ∧ n3 < (↑s.size : Int)) ∧
 br
 (!(decide (byteAt s n3 ≥ (97 : Int)) && decide (byteAt s n3 ≤ (122 : Int))) && !(decide (byteAt s n3 ≥ (48 : Int)) && decide (byteAt s n3 ≤ (57 : Int))) && byteAt s n3 != (45 : Int))
 (R (Value.bool false) h4) (I0 b2 (IntKind.i64.wrap (n3 + (1 : Int))) h4 ∧ I1 b2 (IntKind.i64.wrap (n3 + (1 : Int))) h4 < I1 b2 n3 h4))
 (R (Value.bool true) h4))) := by kernel_rfl

theorem vc18Fresh (h : Heap) (R : Value → Heap → Prop) :
    vcF Tryz.prog Tryz.f17 9 [] [] [] h R =
(HC Tryz.prog (33 : Nat) (Array.mk [Value.int IntKind.i64 (1 : Int), Value.pointer none, Value.string (ByteArray.mk (Array.mk []))]) h fun (v0 : Value) (h1 : Heap) =>
 ∃ (a2 : Option Addr),
 ∃ (n3 : Int),
 v0 = Value.tuple (Array.mk [Value.pointer a2, Value.int IntKind.i64 n3]) ∧
 HC Tryz.prog (34 : Nat) (Array.mk [Value.pointer a2, Value.int IntKind.i64 (5 : Int)]) h1 fun (v4 : Value) (h5 : Heap) => ∃ (a6 : Option Addr), v4 = Value.pointer a6 ∧ R (Value.pointer a6) h5) := by kernel_rfl

theorem vc18Alive (h : Heap) (R : Value → Heap → Prop) :
    vcF Tryz.prog Tryz.f8 33 [] [] [] h R =
(HC Tryz.prog (17 : Nat) (Array.mk []) h fun (v0 : Value) (h1 : Heap) =>
 ∃ (a2 : Option Addr),
 v0 = Value.pointer a2 ∧
 HC Tryz.prog (29 : Nat) (Array.mk [Value.int IntKind.u8 (1 : Int), Value.string (ByteArray.mk (Array.mk [(120 : UInt8)]))]) h1 fun (v3 : Value) (h4 : Heap) =>
 ∃ (h5 : Array Value),
 v3 = Value.agg h5 ∧
 ∃ (h6 : Array Value),
 IsZ Tryz.prog (24 : Nat) h6 ∧
 SVC Tryz.prog (Instr.storeAt (24 : Nat) (Value.pointer (some (Addr.mk (Array.size h4) (0 : Nat) none))) (Value.agg h5)) (Array.push h4 (Obj.cells h6 (24 : Nat)))
 fun (x7 : Unit) (h8 : Heap) =>
 ∃ (h9 : Array Value),
 Reads Tryz.prog (Instr.loadAt (24 : Nat) (Value.pointer (some (Addr.mk (Array.size h4) (0 : Nat) none)))) h8 (Value.agg h9) ∧
 HC Tryz.prog (14 : Nat) (Array.mk [Value.string (ByteArray.mk (Array.mk [(109 : UInt8), (97 : UInt8), (105 : UInt8), (110 : UInt8)])), Value.agg h9]) h8
 fun (v10 : Value) (h11 : Heap) =>
 ∃ (s12 : ByteArray),
 ∃ (s13 : ByteArray),
 ∃ (b14 : Bool),
 v10 = Value.agg (Array.mk [Value.string s12, Value.string s13, Value.bool b14]) ∧
 SVC Tryz.prog (Instr.buildSlice (49 : Nat) (1 : Nat) (Array.mk [((0 : Nat), Value.agg (Array.mk [Value.string s12, Value.string s13, Value.bool b14]))])) h11
 fun (v15 : Value) (h16 : Heap) =>
 ∃ (a17 : Option Addr),
 ∃ (k18 : Nat),
 ∃ (k19 : Nat),
 v15 = Value.slice a17 k18 k19 ∧
 HC Tryz.prog (18 : Nat) (Array.mk [Value.pointer a2, Value.slice a17 k18 k19]) h16 fun (v20 : Value) (h21 : Heap) =>
 ∃ (n22 : Int),
 v20 = Value.int IntKind.i64 n22 ∧
 HC Tryz.prog (22 : Nat)
 (Array.mk [Value.pointer a2, Value.string (ByteArray.mk (Array.mk [(109 : UInt8), (97 : UInt8), (105 : UInt8), (110 : UInt8)]))]) h21
 fun (v23 : Value) (h24 : Heap) =>
 ∃ (h25 : Array Value),
 ∃ (n26 : Int),
 v23 = Value.tuple (Array.mk [Value.agg h25, Value.int IntKind.i64 n26]) ∧
 ∃ (h27 : Array Value),
 IsZ Tryz.prog (24 : Nat) h27 ∧
 SVC Tryz.prog (Instr.storeAt (24 : Nat) (Value.pointer (some (Addr.mk (Array.size h24) (0 : Nat) none))) (Value.agg h25))
 (Array.push h24 (Obj.cells h27 (24 : Nat))) fun (x28 : Unit) (h29 : Heap) =>
 ∃ (h30 : Array Value),
 ((n22 == (0 : Int) && n26 == (0 : Int)) = true →
 Reads Tryz.prog (Instr.loadAt (24 : Nat) (Value.pointer (some (Addr.mk (Array.size h24) (0 : Nat) none)))) h29 (Value.agg h30)) ∧
 ∃ (h31 : Array Value),
 ((n22 == (0 : Int) && n26 == (0 : Int)) = true →
 Reads Tryz.prog (Instr.loadAt (24 : Nat) (Value.pointer (some (Addr.mk (Array.size h4) (0 : Nat) none)))) h29 (Value.agg h31)) ∧
 ∃ (b32 : Bool),
 ((n22 == (0 : Int) && n26 == (0 : Int)) = true →
 Reads Tryz.prog
 (eqSem BinOp.eql (24 : Nat) (Operand.tmp (25 : Nat)) (Operand.tmp (26 : Nat)) (Value.agg h30) (Value.agg h31)) h29
 (Value.bool b32)) ∧
 br (n22 == (0 : Int) && n26 == (0 : Int) && b32)
 (HC Tryz.prog (12 : Nat)
 (Array.mk [Value.string (ByteArray.mk (Array.mk [(77 : UInt8), (97 : UInt8), (105 : UInt8), (110 : UInt8)]))]) h29
 fun (v33 : Value) (h34 : Heap) => ∃ (b35 : Bool), v33 = Value.bool b35 ∧ R (Value.bool !b35) h34)
 (R (Value.bool false) h29)) := by kernel_rfl

theorem vc18Apart (a b : ByteArray) (x y : Array Value) (h : Heap) (R : Value → Heap → Prop) :
    vcF Tryz.prog Tryz.f3 54 [] [] [.string a, .string b, .agg x, .agg y] h R =
(HC Tryz.prog (8 : Nat) (Array.mk []) ((Array.push h (Obj.cells x (24 : Nat))).push (Obj.cells y (24 : Nat))) fun (v0 : Value) (h1 : Heap) =>
 ∃ (b2 : Bool),
 v0 = Value.bool b2 ∧
 br (!b2) (R (Value.bool false) h1)
 (br (decide ((↑a.size : Int) > (1024 : Int)) || decide ((↑b.size : Int) > (1024 : Int))) (R (Value.bool true) h1)
 (∃ (I3 : Heap → Prop),
 I3 h1 ∧
 HC Tryz.prog (9 : Nat) (Array.mk [Value.string a]) h1 fun (v4 : Value) (h5 : Heap) =>
 ∃ (s6 : ByteArray),
 v4 = Value.string s6 ∧
 I3 h5 ∧
 ∃ (h7 : Array Value),
 (∀ (h8 : Heap), I3 h8 → Reads Tryz.prog (Instr.loadAt (24 : Nat) (Value.pointer (some (Addr.mk (Array.size h) (0 : Nat) none)))) h8 (Value.agg h7)) ∧
 HC Tryz.prog (10 : Nat) (Array.mk [Value.agg h7]) h5 fun (v9 : Value) (h10 : Heap) =>
 ∃ (s11 : ByteArray),
 v9 = Value.string s11 ∧
 br (bif (List.brecOn.go (motive := fun (x : List UInt8) => List UInt8 → Bool) s6.toList List.beq._f).1 s11.toList then false else true)
 (HC Tryz.prog (9 : Nat) (Array.mk [Value.string a]) h10 fun (v12 : Value) (h13 : Heap) =>
 ∃ (s14 : ByteArray),
 v12 = Value.string s14 ∧
 HC Tryz.prog (9 : Nat) (Array.mk [Value.string b]) h13 fun (v15 : Value) (h16 : Heap) =>
 ∃ (s17 : ByteArray),
 v15 = Value.string s17 ∧
 ∃ (b18 : Bool),
 (true = true →
 Reads Tryz.prog
 (eqSem BinOp.neq (4 : Nat) (Operand.tmp (29 : Nat)) (Operand.tmp (32 : Nat)) (Value.bool (s14.toList == s17.toList))
 (Value.bool (a.toList == b.toList)))
 h16 (Value.bool b18)) ∧
 br b18 (R (Value.bool false) h16)
 (∃ (I19 : Heap → Prop),
 I19 h16 ∧
 ∃ (h20 : Array Value),
 Reads Tryz.prog (Instr.loadAt (24 : Nat) (Value.pointer (some (Addr.mk (Array.size h) (0 : Nat) none)))) h16 (Value.agg h20) ∧
 HC Tryz.prog (11 : Nat) (Array.mk [Value.agg h20]) h16 fun (v21 : Value) (h22 : Heap) =>
 ∃ (s23 : ByteArray),
 v21 = Value.string s23 ∧
 I19 h22 ∧
 ∃ (h24 : Array Value),
 ((!s23.toList == []) = true →
 Reads Tryz.prog
 (Instr.loadAt (24 : Nat) (Value.pointer (some (Addr.mk (Array.push h (Obj.cells x (24 : Nat))).size (0 : Nat) none)))) h22
 (Value.agg h24)) ∧
 br (bif (List.brecOn.go (motive := fun (x : List UInt8) => List UInt8 → Bool) s23.toList List.beq._f).1 [] then false else true)
 (HC Tryz.prog (11 : Nat) (Array.mk [Value.agg h24]) h22 fun (v25 : Value) (h26 : Heap) =>
 ∃ (s27 : ByteArray),
 v25 = Value.string s27 ∧
 I19 h26 ∧
 ∃ (h28 : Array Value),
 ((!s27.toList == []) = true →
 Reads Tryz.prog (Instr.loadAt (24 : Nat) (Value.pointer (some (Addr.mk (Array.size h) (0 : Nat) none)))) h26
 (Value.agg h28)) ∧
 br
 (bif (List.brecOn.go (motive := fun (x : List UInt8) => List UInt8 → Bool) s27.toList List.beq._f).1 [] then
 false
 else true)
 (HC Tryz.prog (10 : Nat) (Array.mk [Value.agg h28]) h26 fun (v29 : Value) (h30 : Heap) =>
 ∃ (s31 : ByteArray),
 v29 = Value.string s31 ∧
 I19 h30 ∧
 ∃ (h32 : Array Value),
 (true = true →
 ∀ (h33 : Heap),
 I19 h33 →
 Reads Tryz.prog
 (Instr.loadAt (24 : Nat)
 (Value.pointer
 (some (Addr.mk (Array.push h (Obj.cells x (24 : Nat))).size (0 : Nat) none))))
 h33 (Value.agg h32)) ∧
 HC Tryz.prog (10 : Nat) (Array.mk [Value.agg h32]) h30 fun (v34 : Value) (h35 : Heap) =>
 ∃ (s36 : ByteArray),
 v34 = Value.string s36 ∧
 I19 h35 ∧
 ∃ (h37 : Array Value),
 (true = true →
 ∀ (h38 : Heap),
 I19 h38 →
 Reads Tryz.prog
 (Instr.loadAt (24 : Nat)
 (Value.pointer (some (Addr.mk (Array.size h) (0 : Nat) none))))
 h38 (Value.agg h37)) ∧
 ∃ (h39 : Array Value),
 (true = true →
 ∀ (h40 : Heap),
 I19 h40 →
 Reads Tryz.prog
 (Instr.loadAt (24 : Nat)
 (Value.pointer
 (some
 (Addr.mk (Array.push h (Obj.cells x (24 : Nat))).size (0 : Nat)
 none))))
 h40 (Value.agg h39)) ∧
 ∃ (b41 : Bool),
 (true = true →
 ∀ (h42 : Heap),
 I19 h42 →
 Reads Tryz.prog
 (eqSem BinOp.eql (24 : Nat) (Operand.tmp (49 : Nat))
 (Operand.tmp (50 : Nat)) (Value.agg h37) (Value.agg h39))
 h42 (Value.bool b41)) ∧
 ∃ (b43 : Bool),
 (true = true →
 Reads Tryz.prog
 (eqSem BinOp.eql (4 : Nat) (Operand.tmp (48 : Nat))
 (Operand.tmp (51 : Nat)) (Value.bool (s31.toList == s36.toList))
 (Value.bool b41))
 h35 (Value.bool b43)) ∧
 R (Value.bool b43) h35)
 (R (Value.bool true) h26))
 (∃ (h44 : Array Value),
 (false = true →
 Reads Tryz.prog (Instr.loadAt (24 : Nat) (Value.pointer (some (Addr.mk (Array.size h) (0 : Nat) none)))) h22
 (Value.agg h44)) ∧
 R (Value.bool true) h22)))
 (R (Value.bool false) h10)))) := by kernel_rfl

theorem vc18Tells (a : ByteArray) (x : Array Value) (d : ByteArray) (h : Heap) (R : Value → Heap → Prop) :
    vcF Tryz.prog Tryz.f4 68 [] [] [.string a, .agg x, .string d] h R =
(HC Tryz.prog (8 : Nat) (Array.mk []) (Array.push h (Obj.cells x (24 : Nat))) fun (v0 : Value) (h1 : Heap) =>
 ∃ (b2 : Bool),
 v0 = Value.bool b2 ∧
 br (!b2) (R (Value.bool false) h1)
 (br (decide ((↑a.size : Int) > (1024 : Int)) || decide ((↑d.size : Int) > (1024 : Int))) (R (Value.bool true) h1)
 (∃ (h3 : Array Value),
 Reads Tryz.prog (Instr.loadAt (24 : Nat) (Value.pointer (some (Addr.mk (Array.size h) (0 : Nat) none)))) h1 (Value.agg h3) ∧
 HC Tryz.prog (11 : Nat) (Array.mk [Value.agg h3]) h1 fun (v4 : Value) (h5 : Heap) =>
 ∃ (s6 : ByteArray),
 v4 = Value.string s6 ∧
 HC Tryz.prog (12 : Nat) (Array.mk [Value.string a]) h5 fun (v7 : Value) (h8 : Heap) =>
 ∃ (b9 : Bool),
 v7 = Value.bool b9 ∧
 HC Tryz.prog (13 : Nat) (Array.mk [Value.string a]) h8 fun (v10 : Value) (h11 : Heap) =>
 ∃ (b12 : Bool),
 v10 = Value.bool b12 ∧
 ∃ (b13 : Bool),
 Reads Tryz.prog (eqSem BinOp.eql (4 : Nat) (Operand.tmp (21 : Nat)) (Operand.tmp (23 : Nat)) (Value.bool b9) (Value.bool b12)) h11 (Value.bool b13) ∧
 br b13
 (HC Tryz.prog (9 : Nat) (Array.mk [Value.string a]) h11 fun (v14 : Value) (h15 : Heap) =>
 ∃ (s16 : ByteArray),
 v14 = Value.string s16 ∧
 (true = true → (↑((1 : Nat) + a.size) : Int) ≤ IntKind.i64.max) ∧
 ∃ (h17 : Array Value),
 ((s16.toList == (ByteArray.mk (Array.mk [(114 : UInt8)]) ++ a).toList) = true →
 Reads Tryz.prog (Instr.loadAt (24 : Nat) (Value.pointer (some (Addr.mk (Array.size h) (0 : Nat) none)))) h15 (Value.agg h17)) ∧
 br
 ((List.brecOn.go (motive := fun (x : List UInt8) => List UInt8 → Bool) s16.toList List.beq._f).1
 (ByteArray.mk (Array.mk [(114 : UInt8)]) ++ a).toList)
 (HC Tryz.prog (10 : Nat) (Array.mk [Value.agg h17]) h15 fun (v18 : Value) (h19 : Heap) =>
 ∃ (s20 : ByteArray),
 v18 = Value.string s20 ∧
 (true = true → (↑((1 : Nat) + s6.size) : Int) ≤ IntKind.i64.max) ∧
 ∃ (h21 : Array Value),
 ((s20.toList == (ByteArray.mk (Array.mk [(111 : UInt8)]) ++ s6).toList) = true →
 Reads Tryz.prog (Instr.loadAt (24 : Nat) (Value.pointer (some (Addr.mk (Array.size h) (0 : Nat) none)))) h19 (Value.agg h21)) ∧
 br
 ((List.brecOn.go (motive := fun (x : List UInt8) => List UInt8 → Bool) s20.toList List.beq._f).1
 (ByteArray.mk (Array.mk [(111 : UInt8)]) ++ s6).toList)
 (HC Tryz.prog (14 : Nat) (Array.mk [Value.string a, Value.agg h21]) h19 fun (v22 : Value) (h23 : Heap) =>
 ∃ (s24 : ByteArray),
 ∃ (s25 : ByteArray),
 ∃ (b26 : Bool),
 v22 = Value.agg (Array.mk [Value.string s24, Value.string s25, Value.bool b26]) ∧
 (true = true → (↑((1 : Nat) + a.size) : Int) ≤ IntKind.i64.max) ∧
 ∃ (b27 : Bool),
 (true = true →
 Reads Tryz.prog
 (eqSem BinOp.eql (31 : Nat) (Operand.tmp (42 : Nat)) (Operand.tmp (46 : Nat))
 (Value.agg (Array.mk [Value.string s24, Value.string s25, Value.bool b26]))
 (Value.agg
 (Array.mk [Value.string (ByteArray.mk (Array.mk [(114 : UInt8)]) ++ a), Value.string s6, Value.bool false])))
 h23 (Value.bool b27)) ∧
 br b27
 (HC Tryz.prog (15 : Nat) (Array.mk [Value.string a]) h23 fun (v28 : Value) (h29 : Heap) =>
 ∃ (s30 : ByteArray),
 ∃ (s31 : ByteArray),
 ∃ (b32 : Bool),
 v28 = Value.agg (Array.mk [Value.string s30, Value.string s31, Value.bool b32]) ∧
 (true = true → (↑((1 : Nat) + a.size) : Int) ≤ IntKind.i64.max) ∧
 ∃ (b33 : Bool),
 (true = true →
 Reads Tryz.prog
 (eqSem BinOp.eql (31 : Nat) (Operand.tmp (51 : Nat)) (Operand.tmp (54 : Nat))
 (Value.agg (Array.mk [Value.string s30, Value.string s31, Value.bool b32]))
 (Value.agg
 (Array.mk
 [Value.string (ByteArray.mk (Array.mk [(114 : UInt8)]) ++ a),
 Value.string (ByteArray.mk (Array.mk [])), Value.bool true])))
 h29 (Value.bool b33)) ∧
 ∃ (h34 : Array Value),
 (b33 = true →
 Reads Tryz.prog
 (Instr.loadAt (24 : Nat) (Value.pointer (some (Addr.mk (Array.size h) (0 : Nat) none)))) h29
 (Value.agg h34)) ∧
 ∃ (h35 : Array Value),
 (b33 = true →
 Blt Tryz.prog (36 : Nat) [((0 : Nat), Value.agg h34), ((1 : Nat), Value.string d)] h35) ∧
 br b33
 (HC Tryz.prog (16 : Nat) (Array.mk [Value.agg h35]) h29 fun (v36 : Value) (h37 : Heap) =>
 ∃ (s38 : ByteArray),
 ∃ (s39 : ByteArray),
 ∃ (b40 : Bool),
 v36 = Value.agg (Array.mk [Value.string s38, Value.string s39, Value.bool b40]) ∧
 (true = true → (↑((1 : Nat) + s6.size) : Int) ≤ IntKind.i64.max) ∧
 ∃ (b41 : Bool),
 (true = true →
 Reads Tryz.prog
 (eqSem BinOp.eql (31 : Nat) (Operand.tmp (61 : Nat))
 (Operand.tmp (65 : Nat))
 (Value.agg
 (Array.mk [Value.string s38, Value.string s39, Value.bool b40]))
 (Value.agg
 (Array.mk
 [Value.string (ByteArray.mk (Array.mk [(111 : UInt8)]) ++ s6),
 Value.string d, Value.bool false])))
 h37 (Value.bool b41)) ∧
 R (Value.bool b41) h37)
 (R (Value.bool false) h29))
 (∃ (h42 : Array Value),
 (false = true →
 Reads Tryz.prog (Instr.loadAt (24 : Nat) (Value.pointer (some (Addr.mk (Array.size h) (0 : Nat) none)))) h23
 (Value.agg h42)) ∧
 ∃ (h43 : Array Value),
 (false = true → Blt Tryz.prog (36 : Nat) [((0 : Nat), Value.agg h42), ((1 : Nat), Value.string d)] h43) ∧
 R (Value.bool false) h23))
 (∃ (h44 : Array Value),
 (false = true →
 Reads Tryz.prog (Instr.loadAt (24 : Nat) (Value.pointer (some (Addr.mk (Array.size h) (0 : Nat) none)))) h19 (Value.agg h44)) ∧
 ∃ (h45 : Array Value),
 (false = true → Blt Tryz.prog (36 : Nat) [((0 : Nat), Value.agg h44), ((1 : Nat), Value.string d)] h45) ∧
 R (Value.bool false) h19))
 (∃ (h46 : Array Value),
 (false = true → Reads Tryz.prog (Instr.loadAt (24 : Nat) (Value.pointer (some (Addr.mk (Array.size h) (0 : Nat) none)))) h15 (Value.agg h46)) ∧
 ∃ (h47 : Array Value),
 (false = true →
 Reads Tryz.prog (Instr.loadAt (24 : Nat) (Value.pointer (some (Addr.mk (Array.size h) (0 : Nat) none)))) h15 (Value.agg h47)) ∧
 ∃ (h48 : Array Value),
 (false = true → Blt Tryz.prog (36 : Nat) [((0 : Nat), Value.agg h47), ((1 : Nat), Value.string d)] h48) ∧ R (Value.bool false) h15))
 (∃ (h49 : Array Value),
 (false = true → Reads Tryz.prog (Instr.loadAt (24 : Nat) (Value.pointer (some (Addr.mk (Array.size h) (0 : Nat) none)))) h11 (Value.agg h49)) ∧
 ∃ (h50 : Array Value),
 (false = true → Reads Tryz.prog (Instr.loadAt (24 : Nat) (Value.pointer (some (Addr.mk (Array.size h) (0 : Nat) none)))) h11 (Value.agg h50)) ∧
 ∃ (h51 : Array Value),
 (false = true → Reads Tryz.prog (Instr.loadAt (24 : Nat) (Value.pointer (some (Addr.mk (Array.size h) (0 : Nat) none)))) h11 (Value.agg h51)) ∧
 ∃ (h52 : Array Value),
 (false = true → Blt Tryz.prog (36 : Nat) [((0 : Nat), Value.agg h51), ((1 : Nat), Value.string d)] h52) ∧ R (Value.bool false) h11)))) := by kernel_rfl

theorem vc18Many (n : Int) (x : Array Value) (h : Heap) (R : Value → Heap → Prop) :
    vcF Tryz.prog Tryz.f5 101 [] [] [.int .i64 n, .agg x] h R =
(HC Tryz.prog (8 : Nat) (Array.mk []) (Array.push h (Obj.cells x (24 : Nat))) fun (v0 : Value) (h1 : Heap) =>
 ∃ (b2 : Bool),
 v0 = Value.bool b2 ∧
 br (!b2) (R (Value.bool false) h1)
 (∃ (h3 : Array Value),
 ((!(decide (n < (0 : Int)) || decide (n > (60 : Int)))) = true → Reads Tryz.prog (Instr.loadAt (24 : Nat) (Value.pointer (some (Addr.mk (Array.size h) (0 : Nat) none)))) h1 (Value.agg h3)) ∧
 br (bif decide (n < (0 : Int)) || decide (n > (60 : Int)) then false else true)
 (HC Tryz.prog (11 : Nat) (Array.mk [Value.agg h3]) h1 fun (v4 : Value) (h5 : Heap) =>
 ∃ (s6 : ByteArray),
 v4 = Value.string s6 ∧
 br (s6.toList == []) (R (Value.bool true) h5)
 (HC Tryz.prog (17 : Nat) (Array.mk []) h5 fun (v7 : Value) (h8 : Heap) =>
 ∃ (a9 : Option Addr),
 v7 = Value.pointer a9 ∧
 ∃ (I10 : Bool → Int → Heap → Prop),
 ∃ (I11 : Bool → Int → Heap → Nat),
 I10 false (0 : Int) h8 ∧
 ∀ (b12 : Bool) (n13 : Int) (h14 : Heap),
 I10 b12 n13 h14 →
 br (decide (n13 < n))
 ((10 : Int) ≠ (0 : Int) ∧
 (10 : Int) ≠ (0 : Int) ∧
 SVC Tryz.prog
 (Instr.buildSlice (42 : Nat) (2 : Nat)
 (Array.mk
 [((0 : Nat), Value.int IntKind.u8 (IntKind.u8.wrap (IntKind.i64.wrap ((48 : Int) + IntKind.i64.wrap (n13.tdiv (10 : Int)))))),
 ((1 : Nat), Value.int IntKind.u8 (IntKind.u8.wrap (IntKind.i64.wrap ((48 : Int) + n13.tmod (10 : Int)))))]))
 h14 fun (v15 : Value) (h16 : Heap) =>
 ∃ (a17 : Option Addr),
 ∃ (k18 : Nat),
 ∃ (k19 : Nat),
 v15 = Value.slice a17 k18 k19 ∧
 ∃ (s20 : ByteArray),
 Reads Tryz.prog (convert (42 : Nat) (9 : Nat) (Value.slice a17 k18 k19)) h16 (Value.string s20) ∧
 (↑((1 : Nat) + s20.size) : Int) ≤ IntKind.i64.max ∧
 ∃ (h21 : Array Value),
 Reads Tryz.prog (Instr.loadAt (24 : Nat) (Value.pointer (some (Addr.mk (Array.size h) (0 : Nat) none)))) h16 (Value.agg h21) ∧
 HC Tryz.prog (14 : Nat) (Array.mk [Value.string (ByteArray.mk (Array.mk [(98 : UInt8)]) ++ s20), Value.agg h21]) h16
 fun (v22 : Value) (h23 : Heap) =>
 ∃ (s24 : ByteArray),
 ∃ (s25 : ByteArray),
 ∃ (b26 : Bool),
 v22 = Value.agg (Array.mk [Value.string s24, Value.string s25, Value.bool b26]) ∧
 SVC Tryz.prog
 (Instr.buildSlice (49 : Nat) (1 : Nat)
 (Array.mk [((0 : Nat), Value.agg (Array.mk [Value.string s24, Value.string s25, Value.bool b26]))]))
 h23 fun (v27 : Value) (h28 : Heap) =>
 ∃ (a29 : Option Addr),
 ∃ (k30 : Nat),
 ∃ (k31 : Nat),
 v27 = Value.slice a29 k30 k31 ∧
 HC Tryz.prog (18 : Nat) (Array.mk [Value.pointer a9, Value.slice a29 k30 k31]) h28 fun (v32 : Value) (h33 : Heap) =>
 ∃ (n34 : Int),
 v32 = Value.int IntKind.i64 n34 ∧
 br (n34 != (0 : Int)) (R (Value.bool false) h33)
 (I10 b12 (IntKind.i64.wrap (n13 + (1 : Int))) h33 ∧
 I11 b12 (IntKind.i64.wrap (n13 + (1 : Int))) h33 < I11 b12 n13 h14))
 (SVC Tryz.prog
 (Instr.buildSlice (49 : Nat) (2 : Nat)
 (Array.mk
 [((0 : Nat), Value.agg (Array.mk [Value.string (ByteArray.mk (Array.mk [(115 : UInt8)])), Value.string (ByteArray.mk (Array.mk [])), Value.bool false])),
 ((1 : Nat),
 Value.agg (Array.mk [Value.string (ByteArray.mk (Array.mk [(113 : UInt8)])), Value.string (ByteArray.mk (Array.mk [])), Value.bool false]))]))
 h14 fun (v35 : Value) (h36 : Heap) =>
 ∃ (a37 : Option Addr),
 ∃ (k38 : Nat),
 ∃ (k39 : Nat),
 v35 = Value.slice a37 k38 k39 ∧
 HC Tryz.prog (18 : Nat) (Array.mk [Value.pointer a9, Value.slice a37 k38 k39]) h36 fun (v40 : Value) (h41 : Heap) =>
 ∃ (n42 : Int),
 v40 = Value.int IntKind.i64 n42 ∧
 HC Tryz.prog (19 : Nat) (Array.mk [Value.pointer a9]) h41 fun (v43 : Value) (h44 : Heap) =>
 ∃ (a45 : Option Addr),
 ∃ (k46 : Nat),
 ∃ (k47 : Nat),
 ∃ (n48 : Int),
 v43 = Value.tuple (Array.mk [Value.slice a45 k46 k47, Value.int IntKind.i64 n48]) ∧
 br (decide (n > (32 : Int))) (R (Value.bool (n48 == (4 : Int) && (↑k46 : Int) == (0 : Int))) h44)
 (∃ (I49 : Bool → Int → Heap → Prop),
 ∃ (I50 : Bool → Int → Heap → Nat),
 I49 b12 (0 : Int) h44 ∧
 ∀ (b51 : Bool) (n52 : Int) (h53 : Heap),
 I49 b51 n52 h53 →
 br (decide (n52 < (↑k46 : Int)))
 (∃ (p54 : Addr),
 (a45 = some p54 ∧ (0 : Int) ≤ n52 ∧ n52 < (↑k46 : Int)) ∧
 ∃ (h55 : Array Value),
 Reads Tryz.prog (Instr.loadAt (47 : Nat) (Value.pointer (some (p54.add (n52.toNat * (34 : Nat)))))) h53
 (Value.agg h55) ∧
 ∃ (h56 : Array Value),
 IsZ Tryz.prog (47 : Nat) h56 ∧
 SVC Tryz.prog
 (Instr.storeAt (47 : Nat) (Value.pointer (some (Addr.mk (Array.size h53) (0 : Nat) none)))
 (Value.agg h55))
 (Array.push h53 (Obj.cells h56 (47 : Nat))) fun (x57 : Unit) (h58 : Heap) =>
 ∃ (h59 : Array Value),
 Reads Tryz.prog
 (Instr.loadAt (24 : Nat)
 (Value.pointer (some ((Addr.mk (Array.size h53) (0 : Nat) none).add (1 : Nat)))))
 h58 (Value.agg h59) ∧
 ∃ (h60 : Array Value),
 Reads Tryz.prog
 (Instr.loadAt (24 : Nat) (Value.pointer (some (Addr.mk (Array.size h) (0 : Nat) none)))) h58
 (Value.agg h60) ∧
 ∃ (b61 : Bool),
 Reads Tryz.prog
 (eqSem BinOp.neq (24 : Nat) (Operand.tmp (74 : Nat)) (Operand.tmp (75 : Nat))
 (Value.agg h59) (Value.agg h60))
 h58 (Value.bool b61) ∧
 ∃ (p62 : Addr),
 ((decide (n52 > (0 : Int)) && !b61) = true →
 a45 = some p62 ∧
 (0 : Int) ≤ IntKind.i64.wrap (n52 - (1 : Int)) ∧
 IntKind.i64.wrap (n52 - (1 : Int)) < (↑k46 : Int)) ∧
 ∃ (s63 : ByteArray),
 ((decide (n52 > (0 : Int)) && !b61) = true →
 Reads Tryz.prog
 (Instr.loadAt (9 : Nat)
 (Value.pointer
 (some (p62.add ((IntKind.i64.wrap (n52 - (1 : Int))).toNat * (34 : Nat))))))
 h58 (Value.string s63)) ∧
 ∃ (s64 : ByteArray),
 ((decide (n52 > (0 : Int)) && !b61) = true →
 Reads Tryz.prog
 (Instr.loadAt (9 : Nat)
 (Value.pointer (some (Addr.mk (Array.size h53) (0 : Nat) none))))
 h58 (Value.string s64)) ∧
 br (b61 || decide (n52 > (0 : Int)) && !Op.bytesLess s63.toList s64.toList)
 (R (Value.bool false) h58)
 (I49 b51 (IntKind.i64.wrap (n52 + (1 : Int))) h58 ∧
 I50 b51 (IntKind.i64.wrap (n52 + (1 : Int))) h58 < I50 b51 n52 h53))
 (R (Value.bool (n48 == (0 : Int) && (↑k46 : Int) == n)) h53)))))
 (R (Value.bool true) h1))) := by kernel_rfl
end Go.Proofs.YtmdcfmhkfomoaaaGreatDoor
