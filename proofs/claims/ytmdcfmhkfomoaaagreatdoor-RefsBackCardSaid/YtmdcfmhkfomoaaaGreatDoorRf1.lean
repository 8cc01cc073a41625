/-
  What a call of each function comes to, as the symbolic run tells it: by the kernel's own reckoning. Conditions: none.
-/
import Derived.Test.YtmdcfmhkfomoaaaGreatDoorVcE
import Derived.Test.YtmdcfmhkfomoaaaGreatDoorProg
import Derived.KernelRfl
set_option linter.unusedVariables false
set_option maxRecDepth 100000
namespace Go.Proofs.YtmdcfmhkfomoaaaGreatDoor
open Go Go.Vc Go.Proofs

theorem vcIdSize (k : Int) (h : Heap) (R : Value → Heap → Prop) :
    vcF Tryz.prog Tryz.f45 8 [] [] [.int .u8 k] h R =
(br (k == (1 : Int)) (R (Value.int IntKind.i64 (8 : Int)) h) (br (k == (2 : Int)) (R (Value.int IntKind.i64 (32 : Int)) h) (R (Value.int IntKind.i64 (0 : Int)) h))) := by kernel_rfl

theorem vcIdGood (x : Array Value) (h : Heap) (R : Value → Heap → Prop) :
    vcF Tryz.prog Tryz.f42 22 [] [] [.agg x] h R =
(∃ (n0 : Int),
 Reads Tryz.prog (Instr.loadAt (5 : Nat) (Value.pointer (some (Addr.mk (Array.size h) (0 : Nat) none)))) (Array.push h (Obj.cells x (24 : Nat))) (Value.int IntKind.u8 n0) ∧
 HC Tryz.prog (45 : Nat) (Array.mk [Value.int IntKind.u8 n0]) (Array.push h (Obj.cells x (24 : Nat))) fun (v1 : Value) (h2 : Heap) =>
 ∃ (n3 : Int),
 v1 = Value.int IntKind.i64 n3 ∧
 ((0 : Int) ≤ n3 ∧ n3 ≤ (↑(32 : Nat) : Int) ∧ (↑(32 : Nat) : Int) ≤ (↑(32 : Nat) : Int) ∧ (↑(32 : Nat) : Int) ≤ (↑(32 : Nat) : Int)) ∧
 ∃ (I4 : Bool → Int → Heap → Prop),
 ∃ (I5 : Bool → Int → Heap → Nat),
 I4 false (0 : Int) h2 ∧
 ∀ (b6 : Bool) (n7 : Int) (h8 : Heap),
 I4 b6 n7 h8 →
 br (decide (n7 < (↑((32 : Nat) - n3.toNat) : Int)))
 (∃ (p9 : Addr),
 (subA (some ((Addr.mk (Array.size h) (0 : Nat) none).add (1 : Nat))) n3.toNat (32 : Nat) (1 : Nat) = some p9 ∧ (0 : Int) ≤ n7 ∧ n7 < (↑((32 : Nat) - n3.toNat) : Int)) ∧
 ∃ (n10 : Int),
 Reads Tryz.prog (Instr.loadAt (5 : Nat) (Value.pointer (some (p9.add (n7.toNat * (1 : Nat)))))) h8 (Value.int IntKind.u8 n10) ∧
 br (n10 != (0 : Int)) (R (Value.bool false) h8) (I4 b6 (IntKind.i64.wrap (n7 + (1 : Int))) h8 ∧ I5 b6 (IntKind.i64.wrap (n7 + (1 : Int))) h8 < I5 b6 n7 h8))
 (R (Value.bool (decide (n3 > (0 : Int)))) h8)) := by kernel_rfl

theorem vcIdText (x : Array Value) (h : Heap) (R : Value → Heap → Prop) :
    vcF Tryz.prog Tryz.f31 17 [] [] [.agg x] h R =
(∃ (h0 : Array Value),
 Reads Tryz.prog (Instr.loadAt (24 : Nat) (Value.pointer (some (Addr.mk (Array.size h) (0 : Nat) none)))) (Array.push h (Obj.cells x (24 : Nat))) (Value.agg h0) ∧
 HC Tryz.prog (42 : Nat) (Array.mk [Value.agg h0]) (Array.push h (Obj.cells x (24 : Nat))) fun (v1 : Value) (h2 : Heap) =>
 ∃ (b3 : Bool),
 v1 = Value.bool b3 ∧
 br (!b3) (R (Value.string (ByteArray.mk (Array.mk []))) h2)
 (∃ (I4 : Heap → Prop),
 I4 h2 ∧
 ∃ (n5 : Int),
 (∀ (h6 : Heap), I4 h6 → Reads Tryz.prog (Instr.loadAt (5 : Nat) (Value.pointer (some (Addr.mk (Array.size h) (0 : Nat) none)))) h6 (Value.int IntKind.u8 n5)) ∧
 ∃ (n7 : Int),
 (∀ (h8 : Heap), I4 h8 → Reads Tryz.prog (Instr.loadAt (5 : Nat) (Value.pointer (some (Addr.mk (Array.size h) (0 : Nat) none)))) h8 (Value.int IntKind.u8 n7)) ∧
 (SVC Tryz.prog (Instr.buildSlice (42 : Nat) (1 : Nat) (Array.mk [((0 : Nat), Value.int IntKind.u8 n5)])) h2 fun (v9 : Value) (h10 : Heap) =>
 ∃ (a11 : Option Addr),
 ∃ (k12 : Nat),
 ∃ (k13 : Nat),
 v9 = Value.slice a11 k12 k13 ∧
 I4 h10 ∧
 (∃ (s14 : ByteArray),
 Reads Tryz.prog (convert (42 : Nat) (9 : Nat) (Value.slice a11 k12 k13)) h10 (Value.string s14) ∧
 I4 h10 ∧
 HC Tryz.prog (45 : Nat) (Array.mk [Value.int IntKind.u8 n7]) h10 fun (v15 : Value) (h16 : Heap) =>
 ∃ (n17 : Int),
 v15 = Value.int IntKind.i64 n17 ∧
 I4 h16 ∧
 ((0 : Int) ≤ (0 : Int) ∧ (0 : Int) ≤ n17 ∧ n17 ≤ (↑(32 : Nat) : Int) ∧ (↑(32 : Nat) : Int) ≤ (↑(32 : Nat) : Int)) ∧
 ∃ (s18 : ByteArray),
 Reads Tryz.prog
 (convert (42 : Nat) (9 : Nat)
 (Value.slice (subA (some ((Addr.mk (Array.size h) (0 : Nat) none).add (1 : Nat))) (0 : Nat) (32 : Nat) (1 : Nat))
 (n17.toNat - (0 : Nat)) (32 : Nat)))
 h16 (Value.string s18) ∧
 I4 h16 ∧ (↑(s14.size + s18.size) : Int) ≤ IntKind.i64.max ∧ R (Value.string (s14 ++ s18)) h16) ∧
 HC Tryz.prog (45 : Nat) (Array.mk [Value.int IntKind.u8 n7]) h10 fun (v19 : Value) (h20 : Heap) =>
 ∃ (n21 : Int),
 v19 = Value.int IntKind.i64 n21 ∧
 I4 h20 ∧
 ((0 : Int) ≤ (0 : Int) ∧ (0 : Int) ≤ n21 ∧ n21 ≤ (↑(32 : Nat) : Int) ∧ (↑(32 : Nat) : Int) ≤ (↑(32 : Nat) : Int)) ∧
 (∃ (s22 : ByteArray),
 Reads Tryz.prog (convert (42 : Nat) (9 : Nat) (Value.slice a11 k12 k13)) h20 (Value.string s22) ∧
 I4 h20 ∧
 ∃ (s23 : ByteArray),
 Reads Tryz.prog
 (convert (42 : Nat) (9 : Nat)
 (Value.slice (subA (some ((Addr.mk (Array.size h) (0 : Nat) none).add (1 : Nat))) (0 : Nat) (32 : Nat) (1 : Nat))
 (n21.toNat - (0 : Nat)) (32 : Nat)))
 h20 (Value.string s23) ∧
 I4 h20 ∧ (↑(s22.size + s23.size) : Int) ≤ IntKind.i64.max ∧ R (Value.string (s22 ++ s23)) h20) ∧
 ∃ (s24 : ByteArray),
 Reads Tryz.prog
 (convert (42 : Nat) (9 : Nat)
 (Value.slice (subA (some ((Addr.mk (Array.size h) (0 : Nat) none).add (1 : Nat))) (0 : Nat) (32 : Nat) (1 : Nat)) (n21.toNat - (0 : Nat))
 (32 : Nat)))
 h20 (Value.string s24) ∧
 I4 h20 ∧
 ∃ (s25 : ByteArray),
 Reads Tryz.prog (convert (42 : Nat) (9 : Nat) (Value.slice a11 k12 k13)) h20 (Value.string s25) ∧
 I4 h20 ∧ (↑(s25.size + s24.size) : Int) ≤ IntKind.i64.max ∧ R (Value.string (s25 ++ s24)) h20) ∧
 HC Tryz.prog (45 : Nat) (Array.mk [Value.int IntKind.u8 n7]) h2 fun (v26 : Value) (h27 : Heap) =>
 ∃ (n28 : Int),
 v26 = Value.int IntKind.i64 n28 ∧
 I4 h27 ∧
 ((0 : Int) ≤ (0 : Int) ∧ (0 : Int) ≤ n28 ∧ n28 ≤ (↑(32 : Nat) : Int) ∧ (↑(32 : Nat) : Int) ≤ (↑(32 : Nat) : Int)) ∧
 (SVC Tryz.prog (Instr.buildSlice (42 : Nat) (1 : Nat) (Array.mk [((0 : Nat), Value.int IntKind.u8 n5)])) h27 fun (v29 : Value) (h30 : Heap) =>
 ∃ (a31 : Option Addr),
 ∃ (k32 : Nat),
 ∃ (k33 : Nat),
 v29 = Value.slice a31 k32 k33 ∧
 I4 h30 ∧
 (∃ (s34 : ByteArray),
 Reads Tryz.prog (convert (42 : Nat) (9 : Nat) (Value.slice a31 k32 k33)) h30 (Value.string s34) ∧
 I4 h30 ∧
 ∃ (s35 : ByteArray),
 Reads Tryz.prog
 (convert (42 : Nat) (9 : Nat)
 (Value.slice (subA (some ((Addr.mk (Array.size h) (0 : Nat) none).add (1 : Nat))) (0 : Nat) (32 : Nat) (1 : Nat))
 (n28.toNat - (0 : Nat)) (32 : Nat)))
 h30 (Value.string s35) ∧
 I4 h30 ∧ (↑(s34.size + s35.size) : Int) ≤ IntKind.i64.max ∧ R (Value.string (s34 ++ s35)) h30) ∧
 ∃ (s36 : ByteArray),
 Reads Tryz.prog
 (convert (42 : Nat) (9 : Nat)
 (Value.slice (subA (some ((Addr.mk (Array.size h) (0 : Nat) none).add (1 : Nat))) (0 : Nat) (32 : Nat) (1 : Nat)) (n28.toNat - (0 : Nat))
 (32 : Nat)))
 h30 (Value.string s36) ∧
 I4 h30 ∧
 ∃ (s37 : ByteArray),
 Reads Tryz.prog (convert (42 : Nat) (9 : Nat) (Value.slice a31 k32 k33)) h30 (Value.string s37) ∧
 I4 h30 ∧ (↑(s37.size + s36.size) : Int) ≤ IntKind.i64.max ∧ R (Value.string (s37 ++ s36)) h30) ∧
 ∃ (s38 : ByteArray),
 Reads Tryz.prog
 (convert (42 : Nat) (9 : Nat)
 (Value.slice (subA (some ((Addr.mk (Array.size h) (0 : Nat) none).add (1 : Nat))) (0 : Nat) (32 : Nat) (1 : Nat)) (n28.toNat - (0 : Nat)) (32 : Nat)))
 h27 (Value.string s38) ∧
 I4 h27 ∧
 SVC Tryz.prog (Instr.buildSlice (42 : Nat) (1 : Nat) (Array.mk [((0 : Nat), Value.int IntKind.u8 n5)])) h27 fun (v39 : Value) (h40 : Heap) =>
 ∃ (a41 : Option Addr),
 ∃ (k42 : Nat),
 ∃ (k43 : Nat),
 v39 = Value.slice a41 k42 k43 ∧
 I4 h40 ∧
 ∃ (s44 : ByteArray),
 Reads Tryz.prog (convert (42 : Nat) (9 : Nat) (Value.slice a41 k42 k43)) h40 (Value.string s44) ∧
 I4 h40 ∧ (↑(s44.size + s38.size) : Int) ≤ IntKind.i64.max ∧ R (Value.string (s44 ++ s38)) h40)) := by kernel_rfl

theorem vcIdParse (s : ByteArray) (h : Heap) (R : Value → Heap → Prop) :
    vcF Tryz.prog Tryz.f38 33 [] [] [.string s] h R =
(∃ (h0 : Array Value),
 IsZ Tryz.prog (24 : Nat) h0 ∧
 ((!(↑s.size : Int) == (0 : Int)) = true → (0 : Int) ≤ (0 : Int) ∧ (0 : Int) < (↑s.size : Int)) ∧
 br (bif decide ((↑s.size : Int) = (0 : Int)) then false else true)
 (HC Tryz.prog (45 : Nat) (Array.mk [Value.int IntKind.u8 (byteAt s (0 : Int))]) (Array.push h (Obj.cells h0 (24 : Nat))) fun (v1 : Value) (h2 : Heap) =>
 ∃ (n3 : Int),
 v1 = Value.int IntKind.i64 n3 ∧
 ((!n3 == (0 : Int)) = true → (0 : Int) ≤ (0 : Int) ∧ (0 : Int) < (↑s.size : Int)) ∧
 br (bif decide (n3 = (0 : Int)) then false else true)
 (HC Tryz.prog (45 : Nat) (Array.mk [Value.int IntKind.u8 (byteAt s (0 : Int))]) h2 fun (v4 : Value) (h5 : Heap) =>
 ∃ (n6 : Int),
 v4 = Value.int IntKind.i64 n6 ∧
 br ((↑s.size : Int) != IntKind.i64.wrap ((1 : Int) + n6))
 (∃ (h7 : Array Value),
 Blt Tryz.prog (24 : Nat) [] h7 ∧
 SVC Tryz.prog (Instr.storeAt (24 : Nat) (Value.pointer (some (Addr.mk (Array.size h) (0 : Nat) none))) (Value.agg h7)) h5 fun (x8 : Unit) (h9 : Heap) =>
 ∃ (h10 : Array Value),
 Reads Tryz.prog (loadVar (24 : Nat) (Addr.mk (Array.size h) (0 : Nat) none)) h9 (Value.agg h10) ∧ R (Value.tuple (Array.mk [Value.agg h10, Value.bool false])) h9)
 (((0 : Int) ≤ (0 : Int) ∧ (0 : Int) < (↑s.size : Int)) ∧
 ∃ (h11 : Array Value),
 Blt Tryz.prog (24 : Nat) [((0 : Nat), Value.int IntKind.u8 (byteAt s (0 : Int)))] h11 ∧
 ∃ (h12 : Array Value),
 IsZ Tryz.prog (24 : Nat) h12 ∧
 SVC Tryz.prog (Instr.storeAt (24 : Nat) (Value.pointer (some (Addr.mk (Array.size h5) (0 : Nat) none))) (Value.agg h11)) (Array.push h5 (Obj.cells h12 (24 : Nat)))
 fun (x13 : Unit) (h14 : Heap) =>
 ((0 : Int) ≤ (0 : Int) ∧ (0 : Int) ≤ (↑(32 : Nat) : Int) ∧ (↑(32 : Nat) : Int) ≤ (↑(32 : Nat) : Int) ∧ (↑(32 : Nat) : Int) ≤ (↑(32 : Nat) : Int)) ∧
 ((0 : Int) ≤ (1 : Int) ∧ (1 : Int) ≤ (↑s.size : Int) ∧ (↑s.size : Int) ≤ (↑s.size : Int)) ∧
 SVC Tryz.prog
 (Builtin.copy_ (Array.mk [(42 : Nat), (9 : Nat)]) (3 : Nat)
 (Array.mk
 [Value.slice (subA (some ((Addr.mk (Array.size h5) (0 : Nat) none).add (1 : Nat))) (0 : Nat) (32 : Nat) (1 : Nat)) (32 : Nat) (32 : Nat),
 Value.string (s.extract (1 : Nat) s.size)]))
 h14 fun (v15 : Value) (h16 : Heap) =>
 ∃ (n17 : Int),
 v15 = Value.int IntKind.i64 n17 ∧
 ∃ (h18 : Array Value),
 Reads Tryz.prog (Instr.loadAt (24 : Nat) (Value.pointer (some (Addr.mk (Array.size h5) (0 : Nat) none)))) h16 (Value.agg h18) ∧
 SVC Tryz.prog (Instr.storeAt (24 : Nat) (Value.pointer (some (Addr.mk (Array.size h) (0 : Nat) none))) (Value.agg h18)) h16
 fun (x19 : Unit) (h20 : Heap) =>
 ∃ (h21 : Array Value),
 Reads Tryz.prog (loadVar (24 : Nat) (Addr.mk (Array.size h) (0 : Nat) none)) h20 (Value.agg h21) ∧
 R (Value.tuple (Array.mk [Value.agg h21, Value.bool true])) h20))
 (∃ (h22 : Array Value),
 Blt Tryz.prog (24 : Nat) [] h22 ∧
 SVC Tryz.prog (Instr.storeAt (24 : Nat) (Value.pointer (some (Addr.mk (Array.size h) (0 : Nat) none))) (Value.agg h22)) h2 fun (x23 : Unit) (h24 : Heap) =>
 ∃ (h25 : Array Value),
 Reads Tryz.prog (loadVar (24 : Nat) (Addr.mk (Array.size h) (0 : Nat) none)) h24 (Value.agg h25) ∧ R (Value.tuple (Array.mk [Value.agg h25, Value.bool false])) h24))
 ((false = true → (0 : Int) ≤ (0 : Int) ∧ (0 : Int) < (↑s.size : Int)) ∧
 ∃ (h26 : Array Value),
 Blt Tryz.prog (24 : Nat) [] h26 ∧
 SVC Tryz.prog (Instr.storeAt (24 : Nat) (Value.pointer (some (Addr.mk (Array.size h) (0 : Nat) none))) (Value.agg h26)) (Array.push h (Obj.cells h0 (24 : Nat)))
 fun (x27 : Unit) (h28 : Heap) =>
 ∃ (h29 : Array Value),
 Reads Tryz.prog (loadVar (24 : Nat) (Addr.mk (Array.size h) (0 : Nat) none)) h28 (Value.agg h29) ∧ R (Value.tuple (Array.mk [Value.agg h29, Value.bool false])) h28)) := by kernel_rfl

theorem vcRfGood (s : ByteArray) (h : Heap) (R : Value → Heap → Prop) :
    vcF Tryz.prog Tryz.f12 36 [] [] [.string s] h R =
(SVC Tryz.prog (Instr.range (9 : Nat) (Value.string s)) h fun (v0 : Value) (h1 : Heap) =>
 ∃ (a2 : Option Addr),
 v0 = Value.pointer a2 ∧
 ∃ (I3 : Bool → Heap → Prop),
 ∃ (I4 : Bool → Heap → Nat),
 I3 false h1 ∧
 ∀ (b5 : Bool) (h6 : Heap),
 I3 b5 h6 →
 SVC Tryz.prog (Instr.next (Value.pointer a2) true (0 : Nat)) h6 fun (v7 : Value) (h8 : Heap) =>
 v7 = Value.tuple (Array.mk [Value.bool false]) ∧ R (Value.bool (decide ((↑s.size : Int) > (0 : Int)) && decide ((↑s.size : Int) ≤ (16 : Int)))) h8 ∨
 ∃ (n9 : Int),
 ∃ (n10 : Int),
 v7 = Value.tuple (Array.mk [Value.bool true, Value.int IntKind.i64 n9, Value.int IntKind.i32 n10]) ∧
 br ((decide (n10 < (97 : Int)) || decide (n10 > (122 : Int))) && (decide (n10 < (48 : Int)) || decide (n10 > (57 : Int))) && n10 != (45 : Int)) (R (Value.bool false) h8)
 (I3 b5 h8 ∧ I4 b5 h8 < I4 b5 h6)) := by kernel_rfl

theorem vcRfKey (s : ByteArray) (h : Heap) (R : Value → Heap → Prop) :
    vcF Tryz.prog Tryz.f9 5 [] [] [.string s] h R =
((↑((1 : Nat) + s.size) : Int) ≤ IntKind.i64.max ∧ R (Value.string (ByteArray.mk (Array.mk [(114 : UInt8)]) ++ s)) h) := by kernel_rfl

theorem vcRfOKey (x : Array Value) (h : Heap) (R : Value → Heap → Prop) :
    vcF Tryz.prog Tryz.f10 6 [] [] [.agg x] h R =
(∃ (h0 : Array Value),
 Reads Tryz.prog (Instr.loadAt (24 : Nat) (Value.pointer (some (Addr.mk (Array.size h) (0 : Nat) none)))) (Array.push h (Obj.cells x (24 : Nat))) (Value.agg h0) ∧
 HC Tryz.prog (31 : Nat) (Array.mk [Value.agg h0]) (Array.push h (Obj.cells x (24 : Nat))) fun (v1 : Value) (h2 : Heap) =>
 ∃ (s3 : ByteArray), v1 = Value.string s3 ∧ (↑((1 : Nat) + s3.size) : Int) ≤ IntKind.i64.max ∧ R (Value.string (ByteArray.mk (Array.mk [(111 : UInt8)]) ++ s3)) h2) := by kernel_rfl

theorem vcRfSet (s : ByteArray) (x : Array Value) (h : Heap) (R : Value → Heap → Prop) :
    vcF Tryz.prog Tryz.f14 10 [] [] [.string s, .agg x] h R =
(∃ (I0 : Heap → Prop),
 I0 ((Array.push h (Obj.cells x (24 : Nat))).push (Obj.cells (Array.mk [Value.string (ByteArray.mk (Array.mk [])), Value.string (ByteArray.mk (Array.mk [])), Value.bool false]) (31 : Nat))) ∧
 HC Tryz.prog (9 : Nat) (Array.mk [Value.string s])
 ((Array.push h (Obj.cells x (24 : Nat))).push (Obj.cells (Array.mk [Value.string (ByteArray.mk (Array.mk [])), Value.string (ByteArray.mk (Array.mk [])), Value.bool false]) (31 : Nat)))
 fun (v1 : Value) (h2 : Heap) =>
 ∃ (s3 : ByteArray),
 v1 = Value.string s3 ∧
 I0 h2 ∧
 ∃ (h4 : Array Value),
 (∀ (h5 : Heap), I0 h5 → Reads Tryz.prog (Instr.loadAt (24 : Nat) (Value.pointer (some (Addr.mk (Array.size h) (0 : Nat) none)))) h5 (Value.agg h4)) ∧
 HC Tryz.prog (31 : Nat) (Array.mk [Value.agg h4]) h2 fun (v6 : Value) (h7 : Heap) =>
 ∃ (s8 : ByteArray),
 v6 = Value.string s8 ∧
 SVC Tryz.prog
 (Instr.storeAt (31 : Nat) (Value.pointer (some (Addr.mk (Array.push h (Obj.cells x (24 : Nat))).size (0 : Nat) none)))
 (Value.agg (Array.mk [Value.string s3, Value.string s8, Value.bool false])))
 h7 fun (x9 : Unit) (h10 : Heap) =>
 ∃ (s11 : ByteArray),
 ∃ (s12 : ByteArray),
 ∃ (b13 : Bool),
 Reads Tryz.prog (loadVar (31 : Nat) (Addr.mk (Array.push h (Obj.cells x (24 : Nat))).size (0 : Nat) none)) h10
 (Value.agg (Array.mk [Value.string s11, Value.string s12, Value.bool b13])) ∧
 R (Value.agg (Array.mk [Value.string s11, Value.string s12, Value.bool b13])) h10) := by kernel_rfl

theorem vcRfDrop (s : ByteArray) (h : Heap) (R : Value → Heap → Prop) :
    vcF Tryz.prog Tryz.f15 6 [] [] [.string s] h R =
(HC Tryz.prog (9 : Nat) (Array.mk [Value.string s])
 (Array.push h (Obj.cells (Array.mk [Value.string (ByteArray.mk (Array.mk [])), Value.string (ByteArray.mk (Array.mk [])), Value.bool false]) (31 : Nat))) fun (v0 : Value) (h1 : Heap) =>
 ∃ (s2 : ByteArray),
 v0 = Value.string s2 ∧
 SVC Tryz.prog
 (Instr.storeAt (31 : Nat) (Value.pointer (some (Addr.mk (Array.size h) (0 : Nat) none))) (Value.agg (Array.mk [Value.string s2, Value.string (ByteArray.mk (Array.mk [])), Value.bool true])))
 h1 fun (x3 : Unit) (h4 : Heap) =>
 ∃ (s5 : ByteArray),
 ∃ (s6 : ByteArray),
 ∃ (b7 : Bool),
 Reads Tryz.prog (loadVar (31 : Nat) (Addr.mk (Array.size h) (0 : Nat) none)) h4 (Value.agg (Array.mk [Value.string s5, Value.string s6, Value.bool b7])) ∧
 R (Value.agg (Array.mk [Value.string s5, Value.string s6, Value.bool b7])) h4) := by kernel_rfl

theorem vcRfPut (x : Array Value) (h : Heap) (R : Value → Heap → Prop) :
    vcF Tryz.prog Tryz.f16 9 [] [] [.agg x] h R =
(∃ (I0 : Heap → Prop),
 I0 ((Array.push h (Obj.cells x (36 : Nat))).push (Obj.cells (Array.mk [Value.string (ByteArray.mk (Array.mk [])), Value.string (ByteArray.mk (Array.mk [])), Value.bool false]) (31 : Nat))) ∧
 ∃ (h1 : Array Value),
 Reads Tryz.prog (Instr.loadAt (24 : Nat) (Value.pointer (some (Addr.mk (Array.size h) (0 : Nat) none))))
 ((Array.push h (Obj.cells x (36 : Nat))).push (Obj.cells (Array.mk [Value.string (ByteArray.mk (Array.mk [])), Value.string (ByteArray.mk (Array.mk [])), Value.bool false]) (31 : Nat)))
 (Value.agg h1) ∧
 HC Tryz.prog (10 : Nat) (Array.mk [Value.agg h1])
 ((Array.push h (Obj.cells x (36 : Nat))).push (Obj.cells (Array.mk [Value.string (ByteArray.mk (Array.mk [])), Value.string (ByteArray.mk (Array.mk [])), Value.bool false]) (31 : Nat)))
 fun (v2 : Value) (h3 : Heap) =>
 ∃ (s4 : ByteArray),
 v2 = Value.string s4 ∧
 I0 h3 ∧
 ∃ (s5 : ByteArray),
 (∀ (h6 : Heap), I0 h6 → Reads Tryz.prog (Instr.loadAt (9 : Nat) (Value.pointer (some ((Addr.mk (Array.size h) (0 : Nat) none).add (33 : Nat))))) h6 (Value.string s5)) ∧
 SVC Tryz.prog
 (Instr.storeAt (31 : Nat) (Value.pointer (some (Addr.mk (Array.push h (Obj.cells x (36 : Nat))).size (0 : Nat) none)))
 (Value.agg (Array.mk [Value.string s4, Value.string s5, Value.bool false])))
 h3 fun (x7 : Unit) (h8 : Heap) =>
 ∃ (s9 : ByteArray),
 ∃ (s10 : ByteArray),
 ∃ (b11 : Bool),
 Reads Tryz.prog (loadVar (31 : Nat) (Addr.mk (Array.push h (Obj.cells x (36 : Nat))).size (0 : Nat) none)) h8
 (Value.agg (Array.mk [Value.string s9, Value.string s10, Value.bool b11])) ∧
 R (Value.agg (Array.mk [Value.string s9, Value.string s10, Value.bool b11])) h8) := by kernel_rfl

theorem vcRfGet (c : Nat) (s : ByteArray) (h : Heap) (R : Value → Heap → Prop) :
    vcF Tryz.prog Tryz.f22 39 [] [] [.pointer (some ⟨c, 0, none⟩), .string s] h R =
(∃ (h0 : Array Value),
 IsZ Tryz.prog (24 : Nat) h0 ∧
 HC Tryz.prog (12 : Nat) (Array.mk [Value.string s]) (Array.push h (Obj.cells h0 (24 : Nat))) fun (v1 : Value) (h2 : Heap) =>
 ∃ (b3 : Bool),
 v1 = Value.bool b3 ∧
 br (!b3)
 (∃ (h4 : Array Value),
 Blt Tryz.prog (24 : Nat) [] h4 ∧
 SVC Tryz.prog (Instr.storeAt (24 : Nat) (Value.pointer (some (Addr.mk (Array.size h) (0 : Nat) none))) (Value.agg h4)) h2 fun (x5 : Unit) (h6 : Heap) =>
 ∃ (h7 : Array Value),
 Reads Tryz.prog (loadVar (24 : Nat) (Addr.mk (Array.size h) (0 : Nat) none)) h6 (Value.agg h7) ∧ R (Value.tuple (Array.mk [Value.agg h7, Value.int IntKind.i64 (1 : Int)])) h6)
 (HC Tryz.prog (9 : Nat) (Array.mk [Value.string s]) h2 fun (v8 : Value) (h9 : Heap) =>
 ∃ (s10 : ByteArray),
 v8 = Value.string s10 ∧
 HC Tryz.prog (40 : Nat) (Array.mk [Value.pointer (some (Addr.mk c (0 : Nat) none)), Value.string s10]) h9 fun (v11 : Value) (h12 : Heap) =>
 ∃ (s13 : ByteArray),
 ∃ (b14 : Bool),
 ∃ (n15 : Int),
 v11 = Value.tuple (Array.mk [Value.string s13, Value.bool b14, Value.int IntKind.i64 n15]) ∧
 br (n15 != (0 : Int))
 (∃ (h16 : Array Value),
 Blt Tryz.prog (24 : Nat) [] h16 ∧
 SVC Tryz.prog (Instr.storeAt (24 : Nat) (Value.pointer (some (Addr.mk (Array.size h) (0 : Nat) none))) (Value.agg h16)) h12 fun (x17 : Unit) (h18 : Heap) =>
 ∃ (h19 : Array Value),
 Reads Tryz.prog (loadVar (24 : Nat) (Addr.mk (Array.size h) (0 : Nat) none)) h18 (Value.agg h19) ∧
 R (Value.tuple (Array.mk [Value.agg h19, Value.int IntKind.i64 n15])) h18)
 (br (!b14)
 (∃ (h20 : Array Value),
 Blt Tryz.prog (24 : Nat) [] h20 ∧
 SVC Tryz.prog (Instr.storeAt (24 : Nat) (Value.pointer (some (Addr.mk (Array.size h) (0 : Nat) none))) (Value.agg h20)) h12 fun (x21 : Unit) (h22 : Heap) =>
 ∃ (h23 : Array Value),
 Reads Tryz.prog (loadVar (24 : Nat) (Addr.mk (Array.size h) (0 : Nat) none)) h22 (Value.agg h23) ∧
 R (Value.tuple (Array.mk [Value.agg h23, Value.int IntKind.i64 (5 : Int)])) h22)
 (HC Tryz.prog (38 : Nat) (Array.mk [Value.string s13]) h12 fun (v24 : Value) (h25 : Heap) =>
 ∃ (h26 : Array Value),
 ∃ (b27 : Bool),
 v24 = Value.tuple (Array.mk [Value.agg h26, Value.bool b27]) ∧
 ∃ (h28 : Array Value),
 IsZ Tryz.prog (24 : Nat) h28 ∧
 SVC Tryz.prog (Instr.storeAt (24 : Nat) (Value.pointer (some (Addr.mk (Array.size h25) (0 : Nat) none))) (Value.agg h26))
 (Array.push h25 (Obj.cells h28 (24 : Nat))) fun (x29 : Unit) (h30 : Heap) =>
 br (!b27)
 (∃ (h31 : Array Value),
 Blt Tryz.prog (24 : Nat) [] h31 ∧
 SVC Tryz.prog (Instr.storeAt (24 : Nat) (Value.pointer (some (Addr.mk (Array.size h) (0 : Nat) none))) (Value.agg h31)) h30
 fun (x32 : Unit) (h33 : Heap) =>
 ∃ (h34 : Array Value),
 Reads Tryz.prog (loadVar (24 : Nat) (Addr.mk (Array.size h) (0 : Nat) none)) h33 (Value.agg h34) ∧
 R (Value.tuple (Array.mk [Value.agg h34, Value.int IntKind.i64 (4 : Int)])) h33)
 (∃ (h35 : Array Value),
 Reads Tryz.prog (Instr.loadAt (24 : Nat) (Value.pointer (some (Addr.mk (Array.size h25) (0 : Nat) none)))) h30 (Value.agg h35) ∧
 SVC Tryz.prog (Instr.storeAt (24 : Nat) (Value.pointer (some (Addr.mk (Array.size h) (0 : Nat) none))) (Value.agg h35)) h30
 fun (x36 : Unit) (h37 : Heap) =>
 ∃ (h38 : Array Value),
 Reads Tryz.prog (loadVar (24 : Nat) (Addr.mk (Array.size h) (0 : Nat) none)) h37 (Value.agg h38) ∧
 R (Value.tuple (Array.mk [Value.agg h38, Value.int IntKind.i64 (0 : Int)])) h37))))) := by kernel_rfl

theorem vcRfGet0 (s : ByteArray) (h : Heap) (R : Value → Heap → Prop) :
    vcF Tryz.prog Tryz.f22 39 [] [] [.pointer none, .string s] h R =
(∃ (h0 : Array Value),
 IsZ Tryz.prog (24 : Nat) h0 ∧
 HC Tryz.prog (12 : Nat) (Array.mk [Value.string s]) (Array.push h (Obj.cells h0 (24 : Nat))) fun (v1 : Value) (h2 : Heap) =>
 ∃ (b3 : Bool),
 v1 = Value.bool b3 ∧
 br (!b3)
 (∃ (h4 : Array Value),
 Blt Tryz.prog (24 : Nat) [] h4 ∧
 SVC Tryz.prog (Instr.storeAt (24 : Nat) (Value.pointer (some (Addr.mk (Array.size h) (0 : Nat) none))) (Value.agg h4)) h2 fun (x5 : Unit) (h6 : Heap) =>
 ∃ (h7 : Array Value),
 Reads Tryz.prog (loadVar (24 : Nat) (Addr.mk (Array.size h) (0 : Nat) none)) h6 (Value.agg h7) ∧ R (Value.tuple (Array.mk [Value.agg h7, Value.int IntKind.i64 (1 : Int)])) h6)
 (HC Tryz.prog (9 : Nat) (Array.mk [Value.string s]) h2 fun (v8 : Value) (h9 : Heap) =>
 ∃ (s10 : ByteArray),
 v8 = Value.string s10 ∧
 HC Tryz.prog (40 : Nat) (Array.mk [Value.pointer none, Value.string s10]) h9 fun (v11 : Value) (h12 : Heap) =>
 ∃ (s13 : ByteArray),
 ∃ (b14 : Bool),
 ∃ (n15 : Int),
 v11 = Value.tuple (Array.mk [Value.string s13, Value.bool b14, Value.int IntKind.i64 n15]) ∧
 br (n15 != (0 : Int))
 (∃ (h16 : Array Value),
 Blt Tryz.prog (24 : Nat) [] h16 ∧
 SVC Tryz.prog (Instr.storeAt (24 : Nat) (Value.pointer (some (Addr.mk (Array.size h) (0 : Nat) none))) (Value.agg h16)) h12 fun (x17 : Unit) (h18 : Heap) =>
 ∃ (h19 : Array Value),
 Reads Tryz.prog (loadVar (24 : Nat) (Addr.mk (Array.size h) (0 : Nat) none)) h18 (Value.agg h19) ∧
 R (Value.tuple (Array.mk [Value.agg h19, Value.int IntKind.i64 n15])) h18)
 (br (!b14)
 (∃ (h20 : Array Value),
 Blt Tryz.prog (24 : Nat) [] h20 ∧
 SVC Tryz.prog (Instr.storeAt (24 : Nat) (Value.pointer (some (Addr.mk (Array.size h) (0 : Nat) none))) (Value.agg h20)) h12 fun (x21 : Unit) (h22 : Heap) =>
 ∃ (h23 : Array Value),
 Reads Tryz.prog (loadVar (24 : Nat) (Addr.mk (Array.size h) (0 : Nat) none)) h22 (Value.agg h23) ∧
 R (Value.tuple (Array.mk [Value.agg h23, Value.int IntKind.i64 (5 : Int)])) h22)
 (HC Tryz.prog (38 : Nat) (Array.mk [Value.string s13]) h12 fun (v24 : Value) (h25 : Heap) =>
 ∃ (h26 : Array Value),
 ∃ (b27 : Bool),
 v24 = Value.tuple (Array.mk [Value.agg h26, Value.bool b27]) ∧
 ∃ (h28 : Array Value),
 IsZ Tryz.prog (24 : Nat) h28 ∧
 SVC Tryz.prog (Instr.storeAt (24 : Nat) (Value.pointer (some (Addr.mk (Array.size h25) (0 : Nat) none))) (Value.agg h26))
 (Array.push h25 (Obj.cells h28 (24 : Nat))) fun (x29 : Unit) (h30 : Heap) =>
 br (!b27)
 (∃ (h31 : Array Value),
 Blt Tryz.prog (24 : Nat) [] h31 ∧
 SVC Tryz.prog (Instr.storeAt (24 : Nat) (Value.pointer (some (Addr.mk (Array.size h) (0 : Nat) none))) (Value.agg h31)) h30
 fun (x32 : Unit) (h33 : Heap) =>
 ∃ (h34 : Array Value),
 Reads Tryz.prog (loadVar (24 : Nat) (Addr.mk (Array.size h) (0 : Nat) none)) h33 (Value.agg h34) ∧
 R (Value.tuple (Array.mk [Value.agg h34, Value.int IntKind.i64 (4 : Int)])) h33)
 (∃ (h35 : Array Value),
 Reads Tryz.prog (Instr.loadAt (24 : Nat) (Value.pointer (some (Addr.mk (Array.size h25) (0 : Nat) none)))) h30 (Value.agg h35) ∧
 SVC Tryz.prog (Instr.storeAt (24 : Nat) (Value.pointer (some (Addr.mk (Array.size h) (0 : Nat) none))) (Value.agg h35)) h30
 fun (x36 : Unit) (h37 : Heap) =>
 ∃ (h38 : Array Value),
 Reads Tryz.prog (loadVar (24 : Nat) (Addr.mk (Array.size h) (0 : Nat) none)) h37 (Value.agg h38) ∧
 R (Value.tuple (Array.mk [Value.agg h38, Value.int IntKind.i64 (0 : Int)])) h37))))) := by kernel_rfl

theorem vcRfList (c : Nat) (h : Heap) (R : Value → Heap → Prop) :
    vcF Tryz.prog Tryz.f19 60 [] [] [.pointer (some ⟨c, 0, none⟩)] h R =
(HC Tryz.prog (9 : Nat) (Array.mk [Value.string (ByteArray.mk (Array.mk []))]) h fun (v0 : Value) (h1 : Heap) =>
 ∃ (s2 : ByteArray),
 v0 = Value.string s2 ∧
 HC Tryz.prog (37 : Nat) (Array.mk [Value.pointer (some (Addr.mk c (0 : Nat) none)), Value.string s2, Value.int IntKind.i64 (33 : Int)]) h1 fun (v3 : Value) (h4 : Heap) =>
 ∃ (a5 : Option Addr),
 ∃ (k6 : Nat),
 ∃ (k7 : Nat),
 ∃ (n8 : Int),
 v3 = Value.tuple (Array.mk [Value.slice a5 k6 k7, Value.int IntKind.i64 n8]) ∧
 br (n8 != (0 : Int)) (R (Value.tuple (Array.mk [Value.slice none (0 : Nat) (0 : Nat), Value.int IntKind.i64 n8])) h4)
 (∃ (I9 : Option Addr → Nat → Nat → Int → Option Addr → Nat → Nat → Int → Heap → Prop),
 ∃ (I10 : Option Addr → Nat → Nat → Int → Option Addr → Nat → Nat → Int → Heap → Nat),
 I9 none (0 : Nat) (0 : Nat) (0 : Int) none (0 : Nat) (0 : Nat) (0 : Int) h4 ∧
 ∀ (a11 : Option Addr) (k12 k13 : Nat) (n14 : Int) (a15 : Option Addr) (k16 k17 : Nat) (n18 : Int) (h19 : Heap),
 I9 a11 k12 k13 n14 a15 k16 k17 n18 h19 →
 br (decide (n18 < (↑k6 : Int)))
 (∃ (p20 : Addr),
 (a5 = some p20 ∧ (0 : Int) ≤ n18 ∧ n18 < (↑k6 : Int)) ∧
 ∃ (s21 : ByteArray),
 ∃ (s22 : ByteArray),
 Reads Tryz.prog (Instr.loadAt (65 : Nat) (Value.pointer (some (p20.add (n18.toNat * (2 : Nat)))))) h19
 (Value.agg (Array.mk [Value.string s21, Value.string s22])) ∧
 SVC Tryz.prog
 (Instr.storeAt (65 : Nat) (Value.pointer (some (Addr.mk (Array.size h19) (0 : Nat) none))) (Value.agg (Array.mk [Value.string s21, Value.string s22])))
 (Array.push h19 (Obj.cells (Array.mk [Value.string (ByteArray.mk (Array.mk [])), Value.string (ByteArray.mk (Array.mk []))]) (65 : Nat)))
 fun (x23 : Unit) (h24 : Heap) =>
 ∃ (s25 : ByteArray),
 Reads Tryz.prog (Instr.loadAt (9 : Nat) (Value.pointer (some (Addr.mk (Array.size h19) (0 : Nat) none)))) h24 (Value.string s25) ∧
 ((0 : Int) ≤ (0 : Int) ∧ (0 : Int) ≤ (1 : Int) ∧ (1 : Int) ≤ (↑s25.size : Int)) ∧
 br
 (!(s25.extract (0 : Nat) (1 : Nat)).toList ==
 [(Subtype.mk ((ByteArray.mk (Array.mk [(114 : UInt8)])).get! (0 : Nat))
 (List.forall_mem_cons.mp (List.attach._proof_1 [(ByteArray.mk (Array.mk [(114 : UInt8)])).get! (0 : Nat)])).left).val])
 (R (Value.tuple (Array.mk [Value.slice a15 k16 k17, Value.int IntKind.i64 (0 : Int)])) h24)
 (∃ (s32 : ByteArray),
 Reads Tryz.prog (Instr.loadAt (9 : Nat) (Value.pointer (some ((Addr.mk (Array.size h19) (0 : Nat) none).add (1 : Nat))))) h24 (Value.string s32) ∧
 HC Tryz.prog (38 : Nat) (Array.mk [Value.string s32]) h24 fun (v33 : Value) (h34 : Heap) =>
 ∃ (h35 : Array Value),
 ∃ (b36 : Bool),
 v33 = Value.tuple (Array.mk [Value.agg h35, Value.bool b36]) ∧
 ∃ (h37 : Array Value),
 IsZ Tryz.prog (24 : Nat) h37 ∧
 SVC Tryz.prog (Instr.storeAt (24 : Nat) (Value.pointer (some (Addr.mk (Array.size h34) (0 : Nat) none))) (Value.agg h35))
 (Array.push h34 (Obj.cells h37 (24 : Nat))) fun (x38 : Unit) (h39 : Heap) =>
 ∃ (s40 : ByteArray),
 ((!!b36) = true →
 Reads Tryz.prog (Instr.loadAt (9 : Nat) (Value.pointer (some (Addr.mk (Array.size h19) (0 : Nat) none)))) h39
 (Value.string s40)) ∧
 ((!!b36) = true → (0 : Int) ≤ (1 : Int) ∧ (1 : Int) ≤ (↑s40.size : Int) ∧ (↑s40.size : Int) ≤ (↑s40.size : Int)) ∧
 br (bif bif b36 then false else true then false else true)
 (HC Tryz.prog (12 : Nat) (Array.mk [Value.string (s40.extract (1 : Nat) s40.size)]) h39 fun (v41 : Value) (h42 : Heap) =>
 ∃ (b43 : Bool),
 v41 = Value.bool b43 ∧
 br (!b43 || (↑k16 : Int) == (32 : Int))
 (R (Value.tuple (Array.mk [Value.slice none (0 : Nat) (0 : Nat), Value.int IntKind.i64 (4 : Int)])) h42)
 (∃ (s44 : ByteArray),
 Reads Tryz.prog (Instr.loadAt (9 : Nat) (Value.pointer (some (Addr.mk (Array.size h19) (0 : Nat) none)))) h42
 (Value.string s44) ∧
 ((0 : Int) ≤ (1 : Int) ∧ (1 : Int) ≤ (↑s44.size : Int) ∧ (↑s44.size : Int) ≤ (↑s44.size : Int)) ∧
 ∃ (h45 : Array Value),
 Reads Tryz.prog (Instr.loadAt (24 : Nat) (Value.pointer (some (Addr.mk (Array.size h34) (0 : Nat) none))))
 h42 (Value.agg h45) ∧
 ∃ (h46 : Array Value),
 Blt Tryz.prog (47 : Nat)
 [((0 : Nat), Value.string (s44.extract (1 : Nat) s44.size)), ((1 : Nat), Value.agg h45)] h46 ∧
 SVC Tryz.prog (Instr.buildSlice (43 : Nat) (1 : Nat) (Array.mk [((0 : Nat), Value.agg h46)])) h42
 fun (v47 : Value) (h48 : Heap) =>
 ∃ (a49 : Option Addr),
 ∃ (k50 : Nat),
 ∃ (k51 : Nat),
 v47 = Value.slice a49 k50 k51 ∧
 SVC Tryz.prog
 (Builtin.append_ (Array.mk [(43 : Nat), (43 : Nat)]) (43 : Nat)
 (Array.mk [Value.slice a15 k16 k17, Value.slice a49 k50 k51]))
 h48 fun (v52 : Value) (h53 : Heap) =>
 ∃ (a54 : Option Addr),
 ∃ (k55 : Nat),
 ∃ (k56 : Nat),
 v52 = Value.slice a54 k55 k56 ∧
 I9 a11 k12 k13 n14 a54 k55 k56 (IntKind.i64.wrap (n18 + (1 : Int))) h53 ∧
 I10 a11 k12 k13 n14 a54 k55 k56 (IntKind.i64.wrap (n18 + (1 : Int))) h53 <
 I10 a11 k12 k13 n14 a15 k16 k17 n18 h19))
 (R (Value.tuple (Array.mk [Value.slice none (0 : Nat) (0 : Nat), Value.int IntKind.i64 (4 : Int)])) h39)))
 (R (Value.tuple (Array.mk [Value.slice a15 k16 k17, Value.int IntKind.i64 (0 : Int)])) h19))) := by kernel_rfl

theorem vcRfList0 (h : Heap) (R : Value → Heap → Prop) :
    vcF Tryz.prog Tryz.f19 60 [] [] [.pointer none] h R =
(HC Tryz.prog (9 : Nat) (Array.mk [Value.string (ByteArray.mk (Array.mk []))]) h fun (v0 : Value) (h1 : Heap) =>
 ∃ (s2 : ByteArray),
 v0 = Value.string s2 ∧
 HC Tryz.prog (37 : Nat) (Array.mk [Value.pointer none, Value.string s2, Value.int IntKind.i64 (33 : Int)]) h1 fun (v3 : Value) (h4 : Heap) =>
 ∃ (a5 : Option Addr),
 ∃ (k6 : Nat),
 ∃ (k7 : Nat),
 ∃ (n8 : Int),
 v3 = Value.tuple (Array.mk [Value.slice a5 k6 k7, Value.int IntKind.i64 n8]) ∧
 br (n8 != (0 : Int)) (R (Value.tuple (Array.mk [Value.slice none (0 : Nat) (0 : Nat), Value.int IntKind.i64 n8])) h4)
 (∃ (I9 : Option Addr → Nat → Nat → Int → Option Addr → Nat → Nat → Int → Heap → Prop),
 ∃ (I10 : Option Addr → Nat → Nat → Int → Option Addr → Nat → Nat → Int → Heap → Nat),
 I9 none (0 : Nat) (0 : Nat) (0 : Int) none (0 : Nat) (0 : Nat) (0 : Int) h4 ∧
 ∀ (a11 : Option Addr) (k12 k13 : Nat) (n14 : Int) (a15 : Option Addr) (k16 k17 : Nat) (n18 : Int) (h19 : Heap),
 I9 a11 k12 k13 n14 a15 k16 k17 n18 h19 →
 br (decide (n18 < (↑k6 : Int)))
 (∃ (p20 : Addr),
 (a5 = some p20 ∧ (0 : Int) ≤ n18 ∧ n18 < (↑k6 : Int)) ∧
 ∃ (s21 : ByteArray),
 ∃ (s22 : ByteArray),
 Reads Tryz.prog (Instr.loadAt (65 : Nat) (Value.pointer (some (p20.add (n18.toNat * (2 : Nat)))))) h19
 (Value.agg (Array.mk [Value.string s21, Value.string s22])) ∧
 SVC Tryz.prog
 (Instr.storeAt (65 : Nat) (Value.pointer (some (Addr.mk (Array.size h19) (0 : Nat) none))) (Value.agg (Array.mk [Value.string s21, Value.string s22])))
 (Array.push h19 (Obj.cells (Array.mk [Value.string (ByteArray.mk (Array.mk [])), Value.string (ByteArray.mk (Array.mk []))]) (65 : Nat)))
 fun (x23 : Unit) (h24 : Heap) =>
 ∃ (s25 : ByteArray),
 Reads Tryz.prog (Instr.loadAt (9 : Nat) (Value.pointer (some (Addr.mk (Array.size h19) (0 : Nat) none)))) h24 (Value.string s25) ∧
 ((0 : Int) ≤ (0 : Int) ∧ (0 : Int) ≤ (1 : Int) ∧ (1 : Int) ≤ (↑s25.size : Int)) ∧
 br
 (!(s25.extract (0 : Nat) (1 : Nat)).toList ==
 [(Subtype.mk ((ByteArray.mk (Array.mk [(114 : UInt8)])).get! (0 : Nat))
 (List.forall_mem_cons.mp (List.attach._proof_1 [(ByteArray.mk (Array.mk [(114 : UInt8)])).get! (0 : Nat)])).left).val])
 (R (Value.tuple (Array.mk [Value.slice a15 k16 k17, Value.int IntKind.i64 (0 : Int)])) h24)
 (∃ (s32 : ByteArray),
 Reads Tryz.prog (Instr.loadAt (9 : Nat) (Value.pointer (some ((Addr.mk (Array.size h19) (0 : Nat) none).add (1 : Nat))))) h24 (Value.string s32) ∧
 HC Tryz.prog (38 : Nat) (Array.mk [Value.string s32]) h24 fun (v33 : Value) (h34 : Heap) =>
 ∃ (h35 : Array Value),
 ∃ (b36 : Bool),
 v33 = Value.tuple (Array.mk [Value.agg h35, Value.bool b36]) ∧
 ∃ (h37 : Array Value),
 IsZ Tryz.prog (24 : Nat) h37 ∧
 SVC Tryz.prog (Instr.storeAt (24 : Nat) (Value.pointer (some (Addr.mk (Array.size h34) (0 : Nat) none))) (Value.agg h35))
 (Array.push h34 (Obj.cells h37 (24 : Nat))) fun (x38 : Unit) (h39 : Heap) =>
 ∃ (s40 : ByteArray),
 ((!!b36) = true →
 Reads Tryz.prog (Instr.loadAt (9 : Nat) (Value.pointer (some (Addr.mk (Array.size h19) (0 : Nat) none)))) h39
 (Value.string s40)) ∧
 ((!!b36) = true → (0 : Int) ≤ (1 : Int) ∧ (1 : Int) ≤ (↑s40.size : Int) ∧ (↑s40.size : Int) ≤ (↑s40.size : Int)) ∧
 br (bif bif b36 then false else true then false else true)
 (HC Tryz.prog (12 : Nat) (Array.mk [Value.string (s40.extract (1 : Nat) s40.size)]) h39 fun (v41 : Value) (h42 : Heap) =>
 ∃ (b43 : Bool),
 v41 = Value.bool b43 ∧
 br (!b43 || (↑k16 : Int) == (32 : Int))
 (R (Value.tuple (Array.mk [Value.slice none (0 : Nat) (0 : Nat), Value.int IntKind.i64 (4 : Int)])) h42)
 (∃ (s44 : ByteArray),
 Reads Tryz.prog (Instr.loadAt (9 : Nat) (Value.pointer (some (Addr.mk (Array.size h19) (0 : Nat) none)))) h42
 (Value.string s44) ∧
 ((0 : Int) ≤ (1 : Int) ∧ (1 : Int) ≤ (↑s44.size : Int) ∧ (↑s44.size : Int) ≤ (↑s44.size : Int)) ∧
 ∃ (h45 : Array Value),
 Reads Tryz.prog (Instr.loadAt (24 : Nat) (Value.pointer (some (Addr.mk (Array.size h34) (0 : Nat) none))))
 h42 (Value.agg h45) ∧
 ∃ (h46 : Array Value),
 Blt Tryz.prog (47 : Nat)
 [((0 : Nat), Value.string (s44.extract (1 : Nat) s44.size)), ((1 : Nat), Value.agg h45)] h46 ∧
 SVC Tryz.prog (Instr.buildSlice (43 : Nat) (1 : Nat) (Array.mk [((0 : Nat), Value.agg h46)])) h42
 fun (v47 : Value) (h48 : Heap) =>
 ∃ (a49 : Option Addr),
 ∃ (k50 : Nat),
 ∃ (k51 : Nat),
 v47 = Value.slice a49 k50 k51 ∧
 SVC Tryz.prog
 (Builtin.append_ (Array.mk [(43 : Nat), (43 : Nat)]) (43 : Nat)
 (Array.mk [Value.slice a15 k16 k17, Value.slice a49 k50 k51]))
 h48 fun (v52 : Value) (h53 : Heap) =>
 ∃ (a54 : Option Addr),
 ∃ (k55 : Nat),
 ∃ (k56 : Nat),
 v52 = Value.slice a54 k55 k56 ∧
 I9 a11 k12 k13 n14 a54 k55 k56 (IntKind.i64.wrap (n18 + (1 : Int))) h53 ∧
 I10 a11 k12 k13 n14 a54 k55 k56 (IntKind.i64.wrap (n18 + (1 : Int))) h53 <
 I10 a11 k12 k13 n14 a15 k16 k17 n18 h19))
 (R (Value.tuple (Array.mk [Value.slice none (0 : Nat) (0 : Nat), Value.int IntKind.i64 (4 : Int)])) h39)))
 (R (Value.tuple (Array.mk [Value.slice a15 k16 k17, Value.int IntKind.i64 (0 : Int)])) h19))) := by kernel_rfl
end Go.Proofs.YtmdcfmhkfomoaaaGreatDoor
