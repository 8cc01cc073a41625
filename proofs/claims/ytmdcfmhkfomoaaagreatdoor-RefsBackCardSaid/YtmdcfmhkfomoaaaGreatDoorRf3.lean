/-
  What a call of each function comes to, as the symbolic run tells it: by the kernel's own reckoning. Conditions: none.
-/
import Derived.Test.YtmdcfmhkfomoaaaGreatDoorVcE
import Derived.Test.YtmdcfmhkfomoaaaGreatDoorProg
import Derived.KernelRfl
set_option linter.unusedVariables false
set_option maxRecDepth 100000
namespace Go.Proofs.YtmdcfmhkfomoaaaGreatDoor
open Go Go.Vc Go.Proofs

theorem vc18Parse (s : ByteArray) (h : Heap) (R : Value → Heap → Prop) :
    vcF Tryz.prog Tryz.f41 24 [] [] [.string s] h R =
(∃ (h0 : Array Value),
 IsZ Tryz.prog (24 : Nat) h0 ∧
 ((!s.toList == []) = true → (0 : Int) ≤ (0 : Int) ∧ (0 : Int) < (↑s.size : Int)) ∧
 br (bif (List.brecOn.go (motive := fun (x : List UInt8) => List UInt8 → Bool) s.toList List.beq._f).1 [] then false else true)
 (HC Tryz.prog (32 : Nat) (Array.mk [Value.int IntKind.u8 (byteAt s (0 : Int))]) (Array.push h (Obj.cells h0 (24 : Nat))) fun (v1 : Value) (h2 : Heap) =>
 ∃ (n3 : Int),
 v1 = Value.int IntKind.i64 n3 ∧
 ((!n3 == (0 : Int)) = true → (0 : Int) ≤ (0 : Int) ∧ (0 : Int) < (↑s.size : Int)) ∧
 br (bif decide (n3 = (0 : Int)) then false else true)
 (HC Tryz.prog (32 : Nat) (Array.mk [Value.int IntKind.u8 (byteAt s (0 : Int))]) h2 fun (v4 : Value) (h5 : Heap) =>
 ∃ (n6 : Int),
 v4 = Value.int IntKind.i64 n6 ∧
 br ((↑s.size : Int) != IntKind.i64.wrap ((1 : Int) + n6))
 (∃ (h7 : Array Value),
 Blt Tryz.prog (24 : Nat) [] h7 ∧
 SVC Tryz.prog (Instr.storeAt (24 : Nat) (Value.pointer (some (Addr.mk (Array.size h) (0 : Nat) none))) (Value.agg h7)) h5 fun (x8 : Unit) (h9 : Heap) =>
 ∃ (h10 : Array Value),
 Reads Tryz.prog (loadVar (24 : Nat) (Addr.mk (Array.size h) (0 : Nat) none)) h9 (Value.agg h10) ∧ R (Value.tuple (Array.mk [Value.agg h10, Value.bool false])) h9)
 (HC Tryz.prog (43 : Nat) (Array.mk [Value.string s]) h5 fun (v11 : Value) (h12 : Heap) =>
 ∃ (h13 : Array Value),
 v11 = Value.agg h13 ∧
 SVC Tryz.prog (Instr.storeAt (24 : Nat) (Value.pointer (some (Addr.mk (Array.size h) (0 : Nat) none))) (Value.agg h13)) h12 fun (x14 : Unit) (h15 : Heap) =>
 ∃ (h16 : Array Value),
 Reads Tryz.prog (loadVar (24 : Nat) (Addr.mk (Array.size h) (0 : Nat) none)) h15 (Value.agg h16) ∧ R (Value.tuple (Array.mk [Value.agg h16, Value.bool true])) h15))
 (∃ (h17 : Array Value),
 Blt Tryz.prog (24 : Nat) [] h17 ∧
 SVC Tryz.prog (Instr.storeAt (24 : Nat) (Value.pointer (some (Addr.mk (Array.size h) (0 : Nat) none))) (Value.agg h17)) h2 fun (x18 : Unit) (h19 : Heap) =>
 ∃ (h20 : Array Value),
 Reads Tryz.prog (loadVar (24 : Nat) (Addr.mk (Array.size h) (0 : Nat) none)) h19 (Value.agg h20) ∧ R (Value.tuple (Array.mk [Value.agg h20, Value.bool false])) h19))
 ((false = true → (0 : Int) ≤ (0 : Int) ∧ (0 : Int) < (↑s.size : Int)) ∧
 ∃ (h21 : Array Value),
 Blt Tryz.prog (24 : Nat) [] h21 ∧
 SVC Tryz.prog (Instr.storeAt (24 : Nat) (Value.pointer (some (Addr.mk (Array.size h) (0 : Nat) none))) (Value.agg h21)) (Array.push h (Obj.cells h0 (24 : Nat)))
 fun (x22 : Unit) (h23 : Heap) =>
 ∃ (h24 : Array Value),
 Reads Tryz.prog (loadVar (24 : Nat) (Addr.mk (Array.size h) (0 : Nat) none)) h23 (Value.agg h24) ∧ R (Value.tuple (Array.mk [Value.agg h24, Value.bool false])) h23)) := by kernel_rfl

theorem vc18Get (A : Option Addr) (n c : Nat) (s : ByteArray) (h : Heap) (R : Value → Heap → Prop) :
    vcF Tryz.prog Tryz.f23 37 [] [] [.slice A n c, .string s] h R =
(∃ (h0 : Array Value),
 IsZ Tryz.prog (24 : Nat) h0 ∧
 HC Tryz.prog (13 : Nat) (Array.mk [Value.string s]) (Array.push h (Obj.cells h0 (24 : Nat))) fun (v1 : Value) (h2 : Heap) =>
 ∃ (b3 : Bool),
 v1 = Value.bool b3 ∧
 br (!b3)
 (∃ (h4 : Array Value),
 Blt Tryz.prog (24 : Nat) [] h4 ∧
 SVC Tryz.prog (Instr.storeAt (24 : Nat) (Value.pointer (some (Addr.mk (Array.size h) (0 : Nat) none))) (Value.agg h4)) h2 fun (x5 : Unit) (h6 : Heap) =>
 ∃ (h7 : Array Value),
 Reads Tryz.prog (loadVar (24 : Nat) (Addr.mk (Array.size h) (0 : Nat) none)) h6 (Value.agg h7) ∧ R (Value.tuple (Array.mk [Value.agg h7, Value.int IntKind.i64 (1 : Int)])) h6)
 (∃ (I8 : Int → Int → Heap → Prop),
 ∃ (I9 : Int → Int → Heap → Nat),
 I8 (0 : Int) (0 : Int) h2 ∧
 ∀ (n10 n11 : Int) (h12 : Heap),
 I8 n10 n11 h12 →
 br (decide (n11 < (↑n : Int)))
 (∃ (p13 : Addr),
 (A = some p13 ∧ (0 : Int) ≤ n11 ∧ n11 < (↑n : Int)) ∧
 ∃ (s14 : ByteArray),
 ∃ (s15 : ByteArray),
 Reads Tryz.prog (Instr.loadAt (65 : Nat) (Value.pointer (some (p13.add (n11.toNat * (2 : Nat)))))) h12 (Value.agg (Array.mk [Value.string s14, Value.string s15])) ∧
 SVC Tryz.prog (Instr.storeAt (65 : Nat) (Value.pointer (some (Addr.mk (Array.size h12) (0 : Nat) none))) (Value.agg (Array.mk [Value.string s14, Value.string s15])))
 (Array.push h12 (Obj.cells (Array.mk [Value.string (ByteArray.mk (Array.mk [])), Value.string (ByteArray.mk (Array.mk []))]) (65 : Nat)))
 fun (x16 : Unit) (h17 : Heap) =>
 ∃ (s18 : ByteArray),
 Reads Tryz.prog (Instr.loadAt (9 : Nat) (Value.pointer (some (Addr.mk (Array.size h12) (0 : Nat) none)))) h17 (Value.string s18) ∧
 (↑((1 : Nat) + s.size) : Int) ≤ IntKind.i64.max ∧
 br (!s18.toList == (ByteArray.mk (Array.mk [(114 : UInt8)]) ++ s).toList)
 (I8 n10 (IntKind.i64.wrap (n11 + (1 : Int))) h17 ∧ I9 n10 (IntKind.i64.wrap (n11 + (1 : Int))) h17 < I9 n10 n11 h12)
 (∃ (s19 : ByteArray),
 Reads Tryz.prog (Instr.loadAt (9 : Nat) (Value.pointer (some ((Addr.mk (Array.size h12) (0 : Nat) none).add (1 : Nat))))) h17 (Value.string s19) ∧
 HC Tryz.prog (41 : Nat) (Array.mk [Value.string s19]) h17 fun (v20 : Value) (h21 : Heap) =>
 ∃ (h22 : Array Value),
 ∃ (b23 : Bool),
 v20 = Value.tuple (Array.mk [Value.agg h22, Value.bool b23]) ∧
 ∃ (h24 : Array Value),
 IsZ Tryz.prog (24 : Nat) h24 ∧
 SVC Tryz.prog (Instr.storeAt (24 : Nat) (Value.pointer (some (Addr.mk (Array.size h21) (0 : Nat) none))) (Value.agg h22))
 (Array.push h21 (Obj.cells h24 (24 : Nat))) fun (x25 : Unit) (h26 : Heap) =>
 br (!b23)
 (∃ (h27 : Array Value),
 Blt Tryz.prog (24 : Nat) [] h27 ∧
 SVC Tryz.prog (Instr.storeAt (24 : Nat) (Value.pointer (some (Addr.mk (Array.size h) (0 : Nat) none))) (Value.agg h27)) h26
 fun (x28 : Unit) (h29 : Heap) =>
 ∃ (h30 : Array Value),
 Reads Tryz.prog (loadVar (24 : Nat) (Addr.mk (Array.size h) (0 : Nat) none)) h29 (Value.agg h30) ∧
 R (Value.tuple (Array.mk [Value.agg h30, Value.int IntKind.i64 (4 : Int)])) h29)
 (∃ (h31 : Array Value),
 Reads Tryz.prog (Instr.loadAt (24 : Nat) (Value.pointer (some (Addr.mk (Array.size h21) (0 : Nat) none)))) h26 (Value.agg h31) ∧
 SVC Tryz.prog (Instr.storeAt (24 : Nat) (Value.pointer (some (Addr.mk (Array.size h) (0 : Nat) none))) (Value.agg h31)) h26
 fun (x32 : Unit) (h33 : Heap) =>
 ∃ (h34 : Array Value),
 Reads Tryz.prog (loadVar (24 : Nat) (Addr.mk (Array.size h) (0 : Nat) none)) h33 (Value.agg h34) ∧
 R (Value.tuple (Array.mk [Value.agg h34, Value.int IntKind.i64 (0 : Int)])) h33)))
 (∃ (h35 : Array Value),
 Blt Tryz.prog (24 : Nat) [] h35 ∧
 SVC Tryz.prog (Instr.storeAt (24 : Nat) (Value.pointer (some (Addr.mk (Array.size h) (0 : Nat) none))) (Value.agg h35)) h12 fun (x36 : Unit) (h37 : Heap) =>
 ∃ (h38 : Array Value),
 Reads Tryz.prog (loadVar (24 : Nat) (Addr.mk (Array.size h) (0 : Nat) none)) h37 (Value.agg h38) ∧
 R (Value.tuple (Array.mk [Value.agg h38, Value.int IntKind.i64 (5 : Int)])) h37))) := by kernel_rfl

theorem vc18List (A : Option Addr) (n c : Nat) (h : Heap) (R : Value → Heap → Prop) :
    vcF Tryz.prog Tryz.f24 54 [] [] [.slice A n c] h R =
(∃ (I0 : Option Addr → Nat → Nat → Int → Option Addr → Nat → Nat → Int → Heap → Prop),
 ∃ (I1 : Option Addr → Nat → Nat → Int → Option Addr → Nat → Nat → Int → Heap → Nat),
 I0 none (0 : Nat) (0 : Nat) (0 : Int) none (0 : Nat) (0 : Nat) (0 : Int) h ∧
 ∀ (a2 : Option Addr) (k3 k4 : Nat) (n5 : Int) (a6 : Option Addr) (k7 k8 : Nat) (n9 : Int) (h10 : Heap),
 I0 a2 k3 k4 n5 a6 k7 k8 n9 h10 →
 br (decide (n9 < (↑n : Int)))
 (∃ (p11 : Addr),
 (A = some p11 ∧ (0 : Int) ≤ n9 ∧ n9 < (↑n : Int)) ∧
 ∃ (s12 : ByteArray),
 ∃ (s13 : ByteArray),
 Reads Tryz.prog (Instr.loadAt (65 : Nat) (Value.pointer (some (p11.add (n9.toNat * (2 : Nat)))))) h10 (Value.agg (Array.mk [Value.string s12, Value.string s13])) ∧
 SVC Tryz.prog (Instr.storeAt (65 : Nat) (Value.pointer (some (Addr.mk (Array.size h10) (0 : Nat) none))) (Value.agg (Array.mk [Value.string s12, Value.string s13])))
 (Array.push h10 (Obj.cells (Array.mk [Value.string (ByteArray.mk (Array.mk [])), Value.string (ByteArray.mk (Array.mk []))]) (65 : Nat))) fun (x14 : Unit) (h15 : Heap) =>
 ∃ (s16 : ByteArray),
 Reads Tryz.prog (Instr.loadAt (9 : Nat) (Value.pointer (some (Addr.mk (Array.size h10) (0 : Nat) none)))) h15 (Value.string s16) ∧
 ∃ (s17 : ByteArray),
 ((!s16.toList == []) = true → Reads Tryz.prog (Instr.loadAt (9 : Nat) (Value.pointer (some (Addr.mk (Array.size h10) (0 : Nat) none)))) h15 (Value.string s17)) ∧
 ((!s16.toList == []) = true → (0 : Int) ≤ (0 : Int) ∧ (0 : Int) < (↑s17.size : Int)) ∧
 br (s16.toList == [] || byteAt s17 (0 : Int) != (114 : Int))
 (I0 a2 k3 k4 n5 a6 k7 k8 (IntKind.i64.wrap (n9 + (1 : Int))) h15 ∧ I1 a2 k3 k4 n5 a6 k7 k8 (IntKind.i64.wrap (n9 + (1 : Int))) h15 < I1 a2 k3 k4 n5 a6 k7 k8 n9 h10)
 (∃ (s18 : ByteArray),
 Reads Tryz.prog (Instr.loadAt (9 : Nat) (Value.pointer (some ((Addr.mk (Array.size h10) (0 : Nat) none).add (1 : Nat))))) h15 (Value.string s18) ∧
 HC Tryz.prog (41 : Nat) (Array.mk [Value.string s18]) h15 fun (v19 : Value) (h20 : Heap) =>
 ∃ (h21 : Array Value),
 ∃ (b22 : Bool),
 v19 = Value.tuple (Array.mk [Value.agg h21, Value.bool b22]) ∧
 ∃ (h23 : Array Value),
 IsZ Tryz.prog (24 : Nat) h23 ∧
 SVC Tryz.prog (Instr.storeAt (24 : Nat) (Value.pointer (some (Addr.mk (Array.size h20) (0 : Nat) none))) (Value.agg h21))
 (Array.push h20 (Obj.cells h23 (24 : Nat))) fun (x24 : Unit) (h25 : Heap) =>
 ∃ (s26 : ByteArray),
 ((!!b22) = true →
 Reads Tryz.prog (Instr.loadAt (9 : Nat) (Value.pointer (some (Addr.mk (Array.size h10) (0 : Nat) none)))) h25 (Value.string s26)) ∧
 ((!!b22) = true → (0 : Int) ≤ (1 : Int) ∧ (1 : Int) ≤ (↑s26.size : Int) ∧ (↑s26.size : Int) ≤ (↑s26.size : Int)) ∧
 br (bif bif b22 then false else true then false else true)
 (HC Tryz.prog (13 : Nat) (Array.mk [Value.string (s26.extract (1 : Nat) s26.size)]) h25 fun (v27 : Value) (h28 : Heap) =>
 ∃ (b29 : Bool),
 v27 = Value.bool b29 ∧
 br (!b29 || (↑k7 : Int) == (32 : Int))
 (R (Value.tuple (Array.mk [Value.slice none (0 : Nat) (0 : Nat), Value.int IntKind.i64 (4 : Int)])) h28)
 (∃ (s30 : ByteArray),
 Reads Tryz.prog (Instr.loadAt (9 : Nat) (Value.pointer (some (Addr.mk (Array.size h10) (0 : Nat) none)))) h28
 (Value.string s30) ∧
 ((0 : Int) ≤ (1 : Int) ∧ (1 : Int) ≤ (↑s30.size : Int) ∧ (↑s30.size : Int) ≤ (↑s30.size : Int)) ∧
 ∃ (h31 : Array Value),
 Reads Tryz.prog (Instr.loadAt (24 : Nat) (Value.pointer (some (Addr.mk (Array.size h20) (0 : Nat) none)))) h28
 (Value.agg h31) ∧
 ∃ (h32 : Array Value),
 Blt Tryz.prog (47 : Nat) [((0 : Nat), Value.string (s30.extract (1 : Nat) s30.size)), ((1 : Nat), Value.agg h31)]
 h32 ∧
 SVC Tryz.prog (Instr.buildSlice (43 : Nat) (1 : Nat) (Array.mk [((0 : Nat), Value.agg h32)])) h28
 fun (v33 : Value) (h34 : Heap) =>
 ∃ (a35 : Option Addr),
 ∃ (k36 : Nat),
 ∃ (k37 : Nat),
 v33 = Value.slice a35 k36 k37 ∧
 SVC Tryz.prog
 (Builtin.append_ (Array.mk [(43 : Nat), (43 : Nat)]) (43 : Nat)
 (Array.mk [Value.slice a6 k7 k8, Value.slice a35 k36 k37]))
 h34 fun (v38 : Value) (h39 : Heap) =>
 ∃ (a40 : Option Addr),
 ∃ (k41 : Nat),
 ∃ (k42 : Nat),
 v38 = Value.slice a40 k41 k42 ∧
 I0 a2 k3 k4 n5 a40 k41 k42 (IntKind.i64.wrap (n9 + (1 : Int))) h39 ∧
 I1 a2 k3 k4 n5 a40 k41 k42 (IntKind.i64.wrap (n9 + (1 : Int))) h39 <
 I1 a2 k3 k4 n5 a6 k7 k8 n9 h10))
 (R (Value.tuple (Array.mk [Value.slice none (0 : Nat) (0 : Nat), Value.int IntKind.i64 (4 : Int)])) h25)))
 (R (Value.tuple (Array.mk [Value.slice a6 k7 k8, Value.int IntKind.i64 (0 : Int)])) h10)) := by kernel_rfl

theorem vc18Same (A : Option Addr) (n c : Nat) (B : Option Addr) (m d : Nat) (h : Heap) (R : Value → Heap → Prop) :
    vcF Tryz.prog Tryz.f25 26 [] [] [.slice A n c, .slice B m d] h R =
(br ((↑n : Int) != (↑m : Int)) (R (Value.bool false) h)
 (∃ (I0 : Bool → Int → Heap → Prop),
 ∃ (I1 : Bool → Int → Heap → Nat),
 I0 false (0 : Int) h ∧
 ∀ (b2 : Bool) (n3 : Int) (h4 : Heap),
 I0 b2 n3 h4 →
 br (decide (n3 < (↑n : Int)))
 (∃ (p5 : Addr),
 (A = some p5 ∧ (0 : Int) ≤ n3 ∧ n3 < (↑n : Int)) ∧
 ∃ (h6 : Array Value),
 Reads Tryz.prog (Instr.loadAt (47 : Nat) (Value.pointer (some (p5.add (n3.toNat * (34 : Nat)))))) h4 (Value.agg h6) ∧
 ∃ (p7 : Addr),
 (B = some p7 ∧ (0 : Int) ≤ n3 ∧ n3 < (↑m : Int)) ∧
 ∃ (h8 : Array Value),
 Reads Tryz.prog (Instr.loadAt (47 : Nat) (Value.pointer (some (p7.add (n3.toNat * (34 : Nat)))))) h4 (Value.agg h8) ∧
 ∃ (b9 : Bool),
 Reads Tryz.prog (eqSem BinOp.neq (47 : Nat) (Operand.tmp (19 : Nat)) (Operand.tmp (23 : Nat)) (Value.agg h6) (Value.agg h8)) h4 (Value.bool b9) ∧
 br b9 (R (Value.bool false) h4) (I0 b2 (IntKind.i64.wrap (n3 + (1 : Int))) h4 ∧ I1 b2 (IntKind.i64.wrap (n3 + (1 : Int))) h4 < I1 b2 n3 h4))
 (R (Value.bool true) h4))) := by kernel_rfl

theorem vc08Get (A : Option Addr) (n c : Nat) (s : ByteArray) (h : Heap) (R : Value → Heap → Prop) :
    vcF Tryz.prog Tryz.f28 20 [] [] [.slice A n c, .string s] h R =
(∃ (I0 : Int → Int → Heap → Prop),
 ∃ (I1 : Int → Int → Heap → Nat),
 I0 (0 : Int) (0 : Int) h ∧
 ∀ (n2 n3 : Int) (h4 : Heap),
 I0 n2 n3 h4 →
 br (decide (n3 < (↑n : Int)))
 (∃ (p5 : Addr),
 (A = some p5 ∧ (0 : Int) ≤ n3 ∧ n3 < (↑n : Int)) ∧
 ∃ (s6 : ByteArray),
 ∃ (s7 : ByteArray),
 Reads Tryz.prog (Instr.loadAt (65 : Nat) (Value.pointer (some (p5.add (n3.toNat * (2 : Nat)))))) h4 (Value.agg (Array.mk [Value.string s6, Value.string s7])) ∧
 SVC Tryz.prog (Instr.storeAt (65 : Nat) (Value.pointer (some (Addr.mk (Array.size h4) (0 : Nat) none))) (Value.agg (Array.mk [Value.string s6, Value.string s7])))
 (Array.push h4 (Obj.cells (Array.mk [Value.string (ByteArray.mk (Array.mk [])), Value.string (ByteArray.mk (Array.mk []))]) (65 : Nat))) fun (x8 : Unit) (h9 : Heap) =>
 ∃ (s10 : ByteArray),
 Reads Tryz.prog (Instr.loadAt (9 : Nat) (Value.pointer (some (Addr.mk (Array.size h4) (0 : Nat) none)))) h9 (Value.string s10) ∧
 br (s10.toList == s.toList) (R (Value.int IntKind.i64 n3) h9) (I0 n2 (IntKind.i64.wrap (n3 + (1 : Int))) h9 ∧ I1 n2 (IntKind.i64.wrap (n3 + (1 : Int))) h9 < I1 n2 n3 h4))
 (R (Value.int IntKind.i64 (-1 : Int)) h4)) := by kernel_rfl

theorem vc08Done (A : Option Addr) (n c : Nat) (k v : ByteArray) (g : Bool) (h : Heap) (R : Value → Heap → Prop) :
    vcF Tryz.prog Tryz.f30 55 [] [] [.slice A n c, .agg #[.string k, .string v, .bool g]] h R =
(∃ (b0 : Bool),
 Reads Tryz.prog (Instr.loadAt (4 : Nat) (Value.pointer (some ((Addr.mk (Array.size h) (0 : Nat) none).add (2 : Nat)))))
 (Array.push h (Obj.cells (Array.mk [Value.string k, Value.string v, Value.bool g]) (31 : Nat))) (Value.bool b0) ∧
 ∃ (I1 : Option Addr → Nat → Nat → Bool → Int → Heap → Prop),
 ∃ (I2 : Option Addr → Nat → Nat → Bool → Int → Heap → Nat),
 I1 none (0 : Nat) (0 : Nat) b0 (0 : Int) (Array.push h (Obj.cells (Array.mk [Value.string k, Value.string v, Value.bool g]) (31 : Nat))) ∧
 ∀ (a3 : Option Addr) (k4 k5 : Nat) (b6 : Bool) (n7 : Int) (h8 : Heap),
 I1 a3 k4 k5 b6 n7 h8 →
 br (decide (n7 < (↑n : Int)))
 (∃ (p9 : Addr),
 (A = some p9 ∧ (0 : Int) ≤ n7 ∧ n7 < (↑n : Int)) ∧
 ∃ (s10 : ByteArray),
 ∃ (s11 : ByteArray),
 Reads Tryz.prog (Instr.loadAt (65 : Nat) (Value.pointer (some (p9.add (n7.toNat * (2 : Nat)))))) h8 (Value.agg (Array.mk [Value.string s10, Value.string s11])) ∧
 SVC Tryz.prog (Instr.storeAt (65 : Nat) (Value.pointer (some (Addr.mk (Array.size h8) (0 : Nat) none))) (Value.agg (Array.mk [Value.string s10, Value.string s11])))
 (Array.push h8 (Obj.cells (Array.mk [Value.string (ByteArray.mk (Array.mk [])), Value.string (ByteArray.mk (Array.mk []))]) (65 : Nat))) fun (x12 : Unit) (h13 : Heap) =>
 ∃ (s14 : ByteArray),
 ((!b6) = true → Reads Tryz.prog (Instr.loadAt (9 : Nat) (Value.pointer (some (Addr.mk (Array.size h8) (0 : Nat) none)))) h13 (Value.string s14)) ∧
 ∃ (s15 : ByteArray),
 ((!b6) = true → Reads Tryz.prog (Instr.loadAt (9 : Nat) (Value.pointer (some (Addr.mk (Array.size h) (0 : Nat) none)))) h13 (Value.string s15)) ∧
 br (!b6 && !Op.bytesLess s14.toList s15.toList)
 (∃ (s16 : ByteArray),
 Reads Tryz.prog (Instr.loadAt (9 : Nat) (Value.pointer (some (Addr.mk (Array.size h) (0 : Nat) none)))) h13 (Value.string s16) ∧
 ∃ (s17 : ByteArray),
 Reads Tryz.prog (Instr.loadAt (9 : Nat) (Value.pointer (some ((Addr.mk (Array.size h) (0 : Nat) none).add (1 : Nat))))) h13 (Value.string s17) ∧
 SVC Tryz.prog (Instr.buildSlice (51 : Nat) (1 : Nat) (Array.mk [((0 : Nat), Value.agg (Array.mk [Value.string s16, Value.string s17]))])) h13
 fun (v18 : Value) (h19 : Heap) =>
 ∃ (a20 : Option Addr),
 ∃ (k21 : Nat),
 ∃ (k22 : Nat),
 v18 = Value.slice a20 k21 k22 ∧
 SVC Tryz.prog (Builtin.append_ (Array.mk [(51 : Nat), (51 : Nat)]) (51 : Nat) (Array.mk [Value.slice a3 k4 k5, Value.slice a20 k21 k22])) h19
 fun (v23 : Value) (h24 : Heap) =>
 ∃ (a25 : Option Addr),
 ∃ (k26 : Nat),
 ∃ (k27 : Nat),
 v23 = Value.slice a25 k26 k27 ∧
 ∃ (s28 : ByteArray),
 Reads Tryz.prog (Instr.loadAt (9 : Nat) (Value.pointer (some (Addr.mk (Array.size h8) (0 : Nat) none)))) h24 (Value.string s28) ∧
 ∃ (s29 : ByteArray),
 Reads Tryz.prog (Instr.loadAt (9 : Nat) (Value.pointer (some (Addr.mk (Array.size h) (0 : Nat) none)))) h24 (Value.string s29) ∧
 br (!s28.toList == s29.toList)
 (∃ (s30 : ByteArray),
 ∃ (s31 : ByteArray),
 Reads Tryz.prog (Instr.loadAt (65 : Nat) (Value.pointer (some (Addr.mk (Array.size h8) (0 : Nat) none)))) h24
 (Value.agg (Array.mk [Value.string s30, Value.string s31])) ∧
 SVC Tryz.prog
 (Instr.buildSlice (51 : Nat) (1 : Nat)
 (Array.mk [((0 : Nat), Value.agg (Array.mk [Value.string s30, Value.string s31]))]))
 h24 fun (v32 : Value) (h33 : Heap) =>
 ∃ (a34 : Option Addr),
 ∃ (k35 : Nat),
 ∃ (k36 : Nat),
 v32 = Value.slice a34 k35 k36 ∧
 SVC Tryz.prog
 (Builtin.append_ (Array.mk [(51 : Nat), (51 : Nat)]) (51 : Nat)
 (Array.mk [Value.slice a25 k26 k27, Value.slice a34 k35 k36]))
 h33 fun (v37 : Value) (h38 : Heap) =>
 ∃ (a39 : Option Addr),
 ∃ (k40 : Nat),
 ∃ (k41 : Nat),
 v37 = Value.slice a39 k40 k41 ∧
 I1 a39 k40 k41 true (IntKind.i64.wrap (n7 + (1 : Int))) h38 ∧
 I2 a39 k40 k41 true (IntKind.i64.wrap (n7 + (1 : Int))) h38 < I2 a3 k4 k5 b6 n7 h8)
 (I1 a25 k26 k27 true (IntKind.i64.wrap (n7 + (1 : Int))) h24 ∧
 I2 a25 k26 k27 true (IntKind.i64.wrap (n7 + (1 : Int))) h24 < I2 a3 k4 k5 b6 n7 h8))
 (∃ (s42 : ByteArray),
 Reads Tryz.prog (Instr.loadAt (9 : Nat) (Value.pointer (some (Addr.mk (Array.size h8) (0 : Nat) none)))) h13 (Value.string s42) ∧
 ∃ (s43 : ByteArray),
 Reads Tryz.prog (Instr.loadAt (9 : Nat) (Value.pointer (some (Addr.mk (Array.size h) (0 : Nat) none)))) h13 (Value.string s43) ∧
 br (!s42.toList == s43.toList)
 (∃ (s44 : ByteArray),
 ∃ (s45 : ByteArray),
 Reads Tryz.prog (Instr.loadAt (65 : Nat) (Value.pointer (some (Addr.mk (Array.size h8) (0 : Nat) none)))) h13
 (Value.agg (Array.mk [Value.string s44, Value.string s45])) ∧
 SVC Tryz.prog (Instr.buildSlice (51 : Nat) (1 : Nat) (Array.mk [((0 : Nat), Value.agg (Array.mk [Value.string s44, Value.string s45]))])) h13
 fun (v46 : Value) (h47 : Heap) =>
 ∃ (a48 : Option Addr),
 ∃ (k49 : Nat),
 ∃ (k50 : Nat),
 v46 = Value.slice a48 k49 k50 ∧
 SVC Tryz.prog
 (Builtin.append_ (Array.mk [(51 : Nat), (51 : Nat)]) (51 : Nat) (Array.mk [Value.slice a3 k4 k5, Value.slice a48 k49 k50])) h47
 fun (v51 : Value) (h52 : Heap) =>
 ∃ (a53 : Option Addr),
 ∃ (k54 : Nat),
 ∃ (k55 : Nat),
 v51 = Value.slice a53 k54 k55 ∧
 I1 a53 k54 k55 b6 (IntKind.i64.wrap (n7 + (1 : Int))) h52 ∧
 I2 a53 k54 k55 b6 (IntKind.i64.wrap (n7 + (1 : Int))) h52 < I2 a3 k4 k5 b6 n7 h8)
 (I1 a3 k4 k5 b6 (IntKind.i64.wrap (n7 + (1 : Int))) h13 ∧ I2 a3 k4 k5 b6 (IntKind.i64.wrap (n7 + (1 : Int))) h13 < I2 a3 k4 k5 b6 n7 h8)))
 (br (!b6)
 (∃ (s56 : ByteArray),
 Reads Tryz.prog (Instr.loadAt (9 : Nat) (Value.pointer (some (Addr.mk (Array.size h) (0 : Nat) none)))) h8 (Value.string s56) ∧
 ∃ (s57 : ByteArray),
 Reads Tryz.prog (Instr.loadAt (9 : Nat) (Value.pointer (some ((Addr.mk (Array.size h) (0 : Nat) none).add (1 : Nat))))) h8 (Value.string s57) ∧
 SVC Tryz.prog (Instr.buildSlice (51 : Nat) (1 : Nat) (Array.mk [((0 : Nat), Value.agg (Array.mk [Value.string s56, Value.string s57]))])) h8 fun (v58 : Value) (h59 : Heap) =>
 ∃ (a60 : Option Addr),
 ∃ (k61 : Nat),
 ∃ (k62 : Nat),
 v58 = Value.slice a60 k61 k62 ∧
 SVC Tryz.prog (Builtin.append_ (Array.mk [(51 : Nat), (51 : Nat)]) (51 : Nat) (Array.mk [Value.slice a3 k4 k5, Value.slice a60 k61 k62])) h59
 fun (v63 : Value) (h64 : Heap) => ∃ (a65 : Option Addr), ∃ (k66 : Nat), ∃ (k67 : Nat), v63 = Value.slice a65 k66 k67 ∧ R (Value.slice a65 k66 k67) h64)
 (R (Value.slice a3 k4 k5) h8))) := by kernel_rfl

theorem vc08All (A : Option Addr) (n c : Nat) (B : Option Addr) (m d : Nat) (h : Heap) (R : Value → Heap → Prop) :
    vcF Tryz.prog Tryz.f21 18 [] [] [.slice A n c, .slice B m d] h R =
(∃ (I0 : Option Addr → Nat → Nat → Int → Heap → Prop),
 ∃ (I1 : Option Addr → Nat → Nat → Int → Heap → Nat),
 I0 A n c (0 : Int) h ∧
 ∀ (a2 : Option Addr) (k3 k4 : Nat) (n5 : Int) (h6 : Heap),
 I0 a2 k3 k4 n5 h6 →
 br (decide (n5 < (↑m : Int)))
 (∃ (p7 : Addr),
 (B = some p7 ∧ (0 : Int) ≤ n5 ∧ n5 < (↑m : Int)) ∧
 ∃ (s8 : ByteArray),
 ∃ (s9 : ByteArray),
 ∃ (b10 : Bool),
 Reads Tryz.prog (Instr.loadAt (31 : Nat) (Value.pointer (some (p7.add (n5.toNat * (3 : Nat)))))) h6 (Value.agg (Array.mk [Value.string s8, Value.string s9, Value.bool b10])) ∧
 SVC Tryz.prog
 (Instr.storeAt (31 : Nat) (Value.pointer (some (Addr.mk (Array.size h6) (0 : Nat) none))) (Value.agg (Array.mk [Value.string s8, Value.string s9, Value.bool b10])))
 (Array.push h6 (Obj.cells (Array.mk [Value.string (ByteArray.mk (Array.mk [])), Value.string (ByteArray.mk (Array.mk [])), Value.bool false]) (31 : Nat)))
 fun (x11 : Unit) (h12 : Heap) =>
 ∃ (s13 : ByteArray),
 ∃ (s14 : ByteArray),
 ∃ (b15 : Bool),
 Reads Tryz.prog (Instr.loadAt (31 : Nat) (Value.pointer (some (Addr.mk (Array.size h6) (0 : Nat) none)))) h12
 (Value.agg (Array.mk [Value.string s13, Value.string s14, Value.bool b15])) ∧
 HC Tryz.prog (30 : Nat) (Array.mk [Value.slice a2 k3 k4, Value.agg (Array.mk [Value.string s13, Value.string s14, Value.bool b15])]) h12
 fun (v16 : Value) (h17 : Heap) =>
 ∃ (a18 : Option Addr),
 ∃ (k19 : Nat),
 ∃ (k20 : Nat),
 v16 = Value.slice a18 k19 k20 ∧
 I0 a18 k19 k20 (IntKind.i64.wrap (n5 + (1 : Int))) h17 ∧ I1 a18 k19 k20 (IntKind.i64.wrap (n5 + (1 : Int))) h17 < I1 a2 k3 k4 n5 h6)
 (R (Value.slice a2 k3 k4) h6)) := by kernel_rfl

theorem vc08Long (A : Option Addr) (n c : Nat) (h : Heap) (R : Value → Heap → Prop) :
    vcF Tryz.prog Tryz.f39 25 [] [] [.slice A n c] h R =
(∃ (I0 : Bool → Int → Heap → Prop),
 ∃ (I1 : Bool → Int → Heap → Nat),
 I0 false (0 : Int) h ∧
 ∀ (b2 : Bool) (n3 : Int) (h4 : Heap),
 I0 b2 n3 h4 →
 br (decide (n3 < (↑n : Int)))
 (∃ (p5 : Addr),
 (A = some p5 ∧ (0 : Int) ≤ n3 ∧ n3 < (↑n : Int)) ∧
 ∃ (s6 : ByteArray),
 ∃ (s7 : ByteArray),
 ∃ (b8 : Bool),
 Reads Tryz.prog (Instr.loadAt (31 : Nat) (Value.pointer (some (p5.add (n3.toNat * (3 : Nat)))))) h4 (Value.agg (Array.mk [Value.string s6, Value.string s7, Value.bool b8])) ∧
 SVC Tryz.prog
 (Instr.storeAt (31 : Nat) (Value.pointer (some (Addr.mk (Array.size h4) (0 : Nat) none))) (Value.agg (Array.mk [Value.string s6, Value.string s7, Value.bool b8])))
 (Array.push h4 (Obj.cells (Array.mk [Value.string (ByteArray.mk (Array.mk [])), Value.string (ByteArray.mk (Array.mk [])), Value.bool false]) (31 : Nat)))
 fun (x9 : Unit) (h10 : Heap) =>
 ∃ (s11 : ByteArray),
 Reads Tryz.prog (Instr.loadAt (9 : Nat) (Value.pointer (some (Addr.mk (Array.size h4) (0 : Nat) none)))) h10 (Value.string s11) ∧
 ∃ (s12 : ByteArray),
 ((!decide ((↑s11.size : Int) > (48 : Int))) = true →
 Reads Tryz.prog (Instr.loadAt (9 : Nat) (Value.pointer (some ((Addr.mk (Array.size h4) (0 : Nat) none).add (1 : Nat))))) h10 (Value.string s12)) ∧
 br (decide ((↑s11.size : Int) > (48 : Int)) || decide ((↑s12.size : Int) > (160 : Int))) (R (Value.bool true) h10)
 (I0 b2 (IntKind.i64.wrap (n3 + (1 : Int))) h10 ∧ I1 b2 (IntKind.i64.wrap (n3 + (1 : Int))) h10 < I1 b2 n3 h4))
 (R (Value.bool (decide ((↑n : Int) > (1024 : Int)))) h4)) := by kernel_rfl

theorem vc18Great (A : Option Addr) (n c : Nat) (h : Heap) (R : Value → Heap → Prop) :
    vcF Tryz.prog Tryz.f20 27 [] [] [.slice A n c] h R =
(∃ (I0 : Bool → Int → Int → Heap → Prop),
 ∃ (I1 : Bool → Int → Int → Heap → Nat),
 I0 false (0 : Int) (0 : Int) h ∧
 ∀ (b2 : Bool) (n3 n4 : Int) (h5 : Heap),
 I0 b2 n3 n4 h5 →
 br (decide (n4 < (↑n : Int)))
 (∃ (p6 : Addr),
 (A = some p6 ∧ (0 : Int) ≤ n4 ∧ n4 < (↑n : Int)) ∧
 ∃ (s7 : ByteArray),
 ∃ (s8 : ByteArray),
 ∃ (b9 : Bool),
 Reads Tryz.prog (Instr.loadAt (31 : Nat) (Value.pointer (some (p6.add (n4.toNat * (3 : Nat)))))) h5 (Value.agg (Array.mk [Value.string s7, Value.string s8, Value.bool b9])) ∧
 SVC Tryz.prog
 (Instr.storeAt (31 : Nat) (Value.pointer (some (Addr.mk (Array.size h5) (0 : Nat) none))) (Value.agg (Array.mk [Value.string s7, Value.string s8, Value.bool b9])))
 (Array.push h5 (Obj.cells (Array.mk [Value.string (ByteArray.mk (Array.mk [])), Value.string (ByteArray.mk (Array.mk [])), Value.bool false]) (31 : Nat)))
 fun (x10 : Unit) (h11 : Heap) =>
 ∃ (s12 : ByteArray),
 Reads Tryz.prog (Instr.loadAt (9 : Nat) (Value.pointer (some (Addr.mk (Array.size h5) (0 : Nat) none)))) h11 (Value.string s12) ∧
 ∃ (s13 : ByteArray),
 Reads Tryz.prog (Instr.loadAt (9 : Nat) (Value.pointer (some ((Addr.mk (Array.size h5) (0 : Nat) none).add (1 : Nat))))) h11 (Value.string s13) ∧
 br (decide (IntKind.i64.wrap (n3 + IntKind.i64.wrap (IntKind.i64.wrap ((1 : Int) + (↑s12.size : Int)) + (↑s13.size : Int))) > (8192 : Int))) (R (Value.bool true) h11)
 (I0 b2 (IntKind.i64.wrap (n3 + IntKind.i64.wrap (IntKind.i64.wrap ((1 : Int) + (↑s12.size : Int)) + (↑s13.size : Int)))) (IntKind.i64.wrap (n4 + (1 : Int))) h11 ∧
 I1 b2 (IntKind.i64.wrap (n3 + IntKind.i64.wrap (IntKind.i64.wrap ((1 : Int) + (↑s12.size : Int)) + (↑s13.size : Int)))) (IntKind.i64.wrap (n4 + (1 : Int))) h11 <
 I1 b2 n3 n4 h5))
 (HC Tryz.prog (39 : Nat) (Array.mk [Value.slice A n c]) h5 fun (v14 : Value) (h15 : Heap) => ∃ (b16 : Bool), v14 = Value.bool b16 ∧ R (Value.bool b16) h15)) := by kernel_rfl

theorem vcRfObj (c : Nat) (x : Array Value) (h : Heap) (R : Value → Heap → Prop) :
    vcF Tryz.prog Tryz.f27 29 [] [] [.agg #[.pointer (some ⟨c, 0, none⟩)], .agg x] h R =
(∃ (h0 : Array Value),
 Reads Tryz.prog (Instr.loadAt (24 : Nat) (Value.pointer (some (Addr.mk (Array.push h (Obj.cells (Array.mk [Value.pointer (some (Addr.mk c (0 : Nat) none))]) (60 : Nat))).size (0 : Nat) none))))
 ((Array.push h (Obj.cells (Array.mk [Value.pointer (some (Addr.mk c (0 : Nat) none))]) (60 : Nat))).push (Obj.cells x (24 : Nat))) (Value.agg h0) ∧
 HC Tryz.prog (42 : Nat) (Array.mk [Value.agg h0]) ((Array.push h (Obj.cells (Array.mk [Value.pointer (some (Addr.mk c (0 : Nat) none))]) (60 : Nat))).push (Obj.cells x (24 : Nat)))
 fun (v1 : Value) (h2 : Heap) =>
 ∃ (b3 : Bool),
 v1 = Value.bool b3 ∧
 br (!b3) (R (Value.tuple (Array.mk [Value.string (ByteArray.mk (Array.mk [])), Value.int IntKind.i64 (5 : Int)])) h2)
 (∃ (I4 : Heap → Prop),
 I4 h2 ∧
 ∃ (a5 : Option Addr),
 (∀ (h6 : Heap), I4 h6 → Reads Tryz.prog (Instr.loadAt (38 : Nat) (Value.pointer (some (Addr.mk (Array.size h) (0 : Nat) none)))) h6 (Value.pointer a5)) ∧
 ∃ (h7 : Array Value),
 Reads Tryz.prog
 (Instr.loadAt (24 : Nat)
 (Value.pointer (some (Addr.mk (Array.push h (Obj.cells (Array.mk [Value.pointer (some (Addr.mk c (0 : Nat) none))]) (60 : Nat))).size (0 : Nat) none))))
 h2 (Value.agg h7) ∧
 HC Tryz.prog (10 : Nat) (Array.mk [Value.agg h7]) h2 fun (v8 : Value) (h9 : Heap) =>
 ∃ (s10 : ByteArray),
 v8 = Value.string s10 ∧
 I4 h9 ∧
 HC Tryz.prog (40 : Nat) (Array.mk [Value.pointer a5, Value.string s10]) h9 fun (v11 : Value) (h12 : Heap) =>
 ∃ (s13 : ByteArray),
 ∃ (b14 : Bool),
 ∃ (n15 : Int),
 v11 = Value.tuple (Array.mk [Value.string s13, Value.bool b14, Value.int IntKind.i64 n15]) ∧
 br (n15 == (0 : Int) && !b14) (R (Value.tuple (Array.mk [Value.string (ByteArray.mk (Array.mk [])), Value.int IntKind.i64 (5 : Int)])) h12)
 (R (Value.tuple (Array.mk [Value.string s13, Value.int IntKind.i64 n15])) h12))) := by kernel_rfl

theorem vcRfObj0 (x : Array Value) (h : Heap) (R : Value → Heap → Prop) :
    vcF Tryz.prog Tryz.f27 29 [] [] [.agg #[.pointer none], .agg x] h R =
(∃ (h0 : Array Value),
 Reads Tryz.prog (Instr.loadAt (24 : Nat) (Value.pointer (some (Addr.mk (Array.push h (Obj.cells (Array.mk [Value.pointer none]) (60 : Nat))).size (0 : Nat) none))))
 ((Array.push h (Obj.cells (Array.mk [Value.pointer none]) (60 : Nat))).push (Obj.cells x (24 : Nat))) (Value.agg h0) ∧
 HC Tryz.prog (42 : Nat) (Array.mk [Value.agg h0]) ((Array.push h (Obj.cells (Array.mk [Value.pointer none]) (60 : Nat))).push (Obj.cells x (24 : Nat))) fun (v1 : Value) (h2 : Heap) =>
 ∃ (b3 : Bool),
 v1 = Value.bool b3 ∧
 br (!b3) (R (Value.tuple (Array.mk [Value.string (ByteArray.mk (Array.mk [])), Value.int IntKind.i64 (5 : Int)])) h2)
 (∃ (I4 : Heap → Prop),
 I4 h2 ∧
 ∃ (a5 : Option Addr),
 (∀ (h6 : Heap), I4 h6 → Reads Tryz.prog (Instr.loadAt (38 : Nat) (Value.pointer (some (Addr.mk (Array.size h) (0 : Nat) none)))) h6 (Value.pointer a5)) ∧
 ∃ (h7 : Array Value),
 Reads Tryz.prog (Instr.loadAt (24 : Nat) (Value.pointer (some (Addr.mk (Array.push h (Obj.cells (Array.mk [Value.pointer none]) (60 : Nat))).size (0 : Nat) none)))) h2
 (Value.agg h7) ∧
 HC Tryz.prog (10 : Nat) (Array.mk [Value.agg h7]) h2 fun (v8 : Value) (h9 : Heap) =>
 ∃ (s10 : ByteArray),
 v8 = Value.string s10 ∧
 I4 h9 ∧
 HC Tryz.prog (40 : Nat) (Array.mk [Value.pointer a5, Value.string s10]) h9 fun (v11 : Value) (h12 : Heap) =>
 ∃ (s13 : ByteArray),
 ∃ (b14 : Bool),
 ∃ (n15 : Int),
 v11 = Value.tuple (Array.mk [Value.string s13, Value.bool b14, Value.int IntKind.i64 n15]) ∧
 br (n15 == (0 : Int) && !b14) (R (Value.tuple (Array.mk [Value.string (ByteArray.mk (Array.mk [])), Value.int IntKind.i64 (5 : Int)])) h12)
 (R (Value.tuple (Array.mk [Value.string s13, Value.int IntKind.i64 n15])) h12))) := by kernel_rfl

theorem vcRfOf (c : Nat) (h : Heap) (R : Value → Heap → Prop) :
    vcF Tryz.prog Tryz.f26 5 [] [] [.pointer (some ⟨c, 0, none⟩)] h R =
(SVC Tryz.prog (Instr.storeAt (60 : Nat) (Value.pointer (some (Addr.mk (Array.size h) (0 : Nat) none))) (Value.agg (Array.mk [Value.pointer (some (Addr.mk c (0 : Nat) none))])))
 (Array.push h (Obj.cells (Array.mk [Value.pointer none]) (60 : Nat))) fun (x0 : Unit) (h1 : Heap) =>
 ∃ (a2 : Option Addr), Reads Tryz.prog (loadVar (60 : Nat) (Addr.mk (Array.size h) (0 : Nat) none)) h1 (Value.agg (Array.mk [Value.pointer a2])) ∧ R (Value.agg (Array.mk [Value.pointer a2])) h1) := by kernel_rfl

theorem vcRfOf0 (h : Heap) (R : Value → Heap → Prop) :
    vcF Tryz.prog Tryz.f26 5 [] [] [.pointer none] h R =
(SVC Tryz.prog (Instr.storeAt (60 : Nat) (Value.pointer (some (Addr.mk (Array.size h) (0 : Nat) none))) (Value.agg (Array.mk [Value.pointer none])))
 (Array.push h (Obj.cells (Array.mk [Value.pointer none]) (60 : Nat))) fun (x0 : Unit) (h1 : Heap) =>
 ∃ (a2 : Option Addr), Reads Tryz.prog (loadVar (60 : Nat) (Addr.mk (Array.size h) (0 : Nat) none)) h1 (Value.agg (Array.mk [Value.pointer a2])) ∧ R (Value.agg (Array.mk [Value.pointer a2])) h1) := by kernel_rfl

theorem vcCGet0 (k : ByteArray) (h : Heap) (R : Value → Heap → Prop) :
    vcF Tryz.prog Tryz.f40 61 [] [] [.pointer none, .string k] h R =
(∃ (b0 : Bool),
 Reads Tryz.prog (eqSem BinOp.eql (38 : Nat) (Operand.tmp (11 : Nat)) (Operand.const (Value.pointer none)) (Value.pointer none) (Value.pointer none)) h (Value.bool b0) ∧
 br b0 (R (Value.tuple (Array.mk [Value.string (ByteArray.mk (Array.mk [])), Value.bool false, Value.int IntKind.i64 (2 : Int)])) h)
 (∃ (p1 : Addr),
 none = some p1 ∧
 ∃ (a2 : Option Nat),
 Reads Tryz.prog (Instr.loadAt (77 : Nat) (Value.pointer (some (p1.add (2 : Nat))))) h (Value.map a2) ∧
 ∃ (a3 : Option Addr),
 Reads Tryz.prog (Instr.lookup (77 : Nat) (Value.map a2) (Value.string k) false) h (Value.pointer a3) ∧
 ∃ (b4 : Bool),
 Reads Tryz.prog (eqSem BinOp.neq (78 : Nat) (Operand.tmp (19 : Nat)) (Operand.const (Value.pointer none)) (Value.pointer a3) (Value.pointer none)) h (Value.bool b4) ∧
 br b4
 (∃ (p5 : Addr),
 none = some p5 ∧
 ∃ (n6 : Int),
 Reads Tryz.prog (Instr.loadAt (3 : Nat) (Value.pointer (some (p5.add (8 : Nat))))) h (Value.int IntKind.i64 n6) ∧
 ∃ (p7 : Addr),
 none = some p7 ∧
 SVC Tryz.prog (Instr.storeAt (3 : Nat) (Value.pointer (some (p7.add (8 : Nat)))) (Value.int IntKind.i64 (IntKind.i64.wrap (n6 + (1 : Int))))) h
 fun (x8 : Unit) (h9 : Heap) =>
 HC Tryz.prog (49 : Nat) (Array.mk [Value.pointer a3]) h9 fun (v10 : Value) (h11 : Heap) =>
 v10 = Value.tuple (Array.mk []) ∧
 HC Tryz.prog (50 : Nat) (Array.mk [Value.pointer none, Value.pointer a3]) h11 fun (v12 : Value) (h13 : Heap) =>
 v12 = Value.tuple (Array.mk []) ∧
 ∃ (p14 : Addr),
 a3 = some p14 ∧
 ∃ (s15 : ByteArray),
 Reads Tryz.prog (Instr.loadAt (9 : Nat) (Value.pointer (some (p14.add (1 : Nat))))) h13 (Value.string s15) ∧
 ∃ (p16 : Addr),
 a3 = some p16 ∧
 ∃ (b17 : Bool),
 Reads Tryz.prog (Instr.loadAt (4 : Nat) (Value.pointer (some (p16.add (2 : Nat))))) h13 (Value.bool b17) ∧
 R (Value.tuple (Array.mk [Value.string s15, Value.bool b17, Value.int IntKind.i64 (0 : Int)])) h13)
 (∃ (p18 : Addr),
 none = some p18 ∧
 ∃ (a19 : Option Addr),
 Reads Tryz.prog (Instr.loadAt (73 : Nat) (Value.pointer (some p18))) h (Value.pointer a19) ∧
 HC Tryz.prog (52 : Nat) (Array.mk [Value.pointer a19, Value.string k]) h fun (v20 : Value) (h21 : Heap) =>
 ∃ (s22 : ByteArray),
 ∃ (b23 : Bool),
 ∃ (n24 : Int),
 v20 = Value.tuple (Array.mk [Value.string s22, Value.bool b23, Value.int IntKind.i64 n24]) ∧
 br (n24 == (0 : Int))
 (HC Tryz.prog (36 : Nat) (Array.mk [Value.pointer none, Value.string k, Value.string s22, Value.bool b23]) h21 fun (v25 : Value) (h26 : Heap) =>
 v25 = Value.tuple (Array.mk []) ∧ R (Value.tuple (Array.mk [Value.string s22, Value.bool b23, Value.int IntKind.i64 n24])) h26)
 (R (Value.tuple (Array.mk [Value.string s22, Value.bool b23, Value.int IntKind.i64 n24])) h21)))) := by kernel_rfl

theorem vcCScan0 (k : ByteArray) (n : Int) (h : Heap) (R : Value → Heap → Prop) :
    vcF Tryz.prog Tryz.f37 19 [] [] [.pointer none, .string k, .int .i64 n] h R =
(∃ (b0 : Bool),
 Reads Tryz.prog (eqSem BinOp.eql (38 : Nat) (Operand.tmp (8 : Nat)) (Operand.const (Value.pointer none)) (Value.pointer none) (Value.pointer none)) h (Value.bool b0) ∧
 br b0 (R (Value.tuple (Array.mk [Value.slice none (0 : Nat) (0 : Nat), Value.int IntKind.i64 (2 : Int)])) h)
 (∃ (p1 : Addr),
 none = some p1 ∧
 ∃ (a2 : Option Addr),
 Reads Tryz.prog (Instr.loadAt (73 : Nat) (Value.pointer (some p1))) h (Value.pointer a2) ∧
 HC Tryz.prog (51 : Nat) (Array.mk [Value.pointer a2, Value.string k, Value.int IntKind.i64 n]) h fun (v3 : Value) (h4 : Heap) =>
 ∃ (a5 : Option Addr),
 ∃ (k6 : Nat),
 ∃ (k7 : Nat),
 ∃ (n8 : Int), v3 = Value.tuple (Array.mk [Value.slice a5 k6 k7, Value.int IntKind.i64 n8]) ∧ R (Value.tuple (Array.mk [Value.slice a5 k6 k7, Value.int IntKind.i64 n8])) h4)) := by kernel_rfl
end Go.Proofs.YtmdcfmhkfomoaaaGreatDoor
