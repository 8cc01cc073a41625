/-
  What a call of each function comes to, as the symbolic run tells it: by the kernel's own reckoning. Conditions: none.
-/
import Derived.Test.YtmdcfmhkfomoaaaGreatDoorVcE
import Derived.Test.YtmdcfmhkfomoaaaGreatDoorProg
import Derived.KernelRfl
set_option linter.unusedVariables false
set_option maxRecDepth 100000
namespace Go.Proofs.YtmdcfmhkfomoaaaGreatDoor
open Go Go.Vc Go.Proofs

theorem vcStOpen1 (h : Heap) (R : Value → Heap → Prop) :
    vcF Tryz.prog Tryz.f33 57 [] [] [.int .i64 1, .pointer none, .string ⟨#[]⟩] h R =
(R (Value.tuple (Array.mk [Value.pointer (some (Addr.mk (Array.push h (Obj.map (Array.mk []) (0 : Nat))).size (0 : Nat) none)), Value.int IntKind.i64 (0 : Int)]))
 ((Array.push h (Obj.map (Array.mk []) (0 : Nat))).push
 (Obj.cells (Array.mk [Value.iface (96 : Nat) (Value.agg (Array.mk [Value.map (some (Array.size h))])), Value.pointer none, Value.int IntKind.i64 (1 : Int)]) (100 : Nat)))) := by kernel_rfl

theorem vcStReady (s : Nat) (h : Heap) (R : Value → Heap → Prop) :
    vcF Tryz.prog Tryz.f48 19 [] [] [.pointer (some ⟨s, 0, none⟩)] h R =
(∃ (b0 : Bool),
 Reads Tryz.prog (eqSem BinOp.eql (73 : Nat) (Operand.tmp (4 : Nat)) (Operand.const (Value.pointer none)) (Value.pointer (some (Addr.mk s (0 : Nat) none))) (Value.pointer none)) h (Value.bool b0) ∧
 br b0 (R (Value.int IntKind.i64 (2 : Int)) h)
 (∃ (p1 : Addr),
 some (Addr.mk s (0 : Nat) none) = some p1 ∧
 ∃ (a2 : Option Addr),
 Reads Tryz.prog (Instr.loadAt (93 : Nat) (Value.pointer (some (p1.add (1 : Nat))))) h (Value.pointer a2) ∧
 ∃ (b3 : Bool),
 Reads Tryz.prog (eqSem BinOp.neq (93 : Nat) (Operand.tmp (10 : Nat)) (Operand.const (Value.pointer none)) (Value.pointer a2) (Value.pointer none)) h (Value.bool b3) ∧
 ∃ (p4 : Addr),
 (b3 = true → some (Addr.mk s (0 : Nat) none) = some p4) ∧
 ∃ (a5 : Option Addr),
 (b3 = true → Reads Tryz.prog (Instr.loadAt (93 : Nat) (Value.pointer (some (p4.add (1 : Nat))))) h (Value.pointer a5)) ∧
 br b3
 (HC Tryz.prog (58 : Nat) (Array.mk [Value.pointer a5]) h fun (v6 : Value) (h7 : Heap) =>
 ∃ (b8 : Bool), v6 = Value.bool b8 ∧ br b8 (R (Value.int IntKind.i64 (8 : Int)) h7) (R (Value.int IntKind.i64 (0 : Int)) h7))
 (R (Value.int IntKind.i64 (0 : Int)) h))) := by kernel_rfl

theorem vcStGet (s : Nat) (k : ByteArray) (h : Heap) (R : Value → Heap → Prop) :
    vcF Tryz.prog Tryz.f52 22 [] [] [.pointer (some ⟨s, 0, none⟩), .string k] h R =
(HC Tryz.prog (48 : Nat) (Array.mk [Value.pointer (some (Addr.mk s (0 : Nat) none))]) h fun (v0 : Value) (h1 : Heap) =>
 ∃ (n2 : Int),
 v0 = Value.int IntKind.i64 n2 ∧
 br (n2 != (0 : Int)) (R (Value.tuple (Array.mk [Value.string (ByteArray.mk (Array.mk [])), Value.bool false, Value.int IntKind.i64 n2])) h1)
 (∃ (p3 : Addr),
 some (Addr.mk s (0 : Nat) none) = some p3 ∧
 ∃ (v4 : Value),
 Reads Tryz.prog (Instr.loadAt (98 : Nat) (Value.pointer (some p3))) h1 v4 ∧
 ∃ (k5 : Nat),
 ∃ (v6 : Value),
 Meth Tryz.prog v4 "rootstock/store.get" k5 v6 ∧
 HC Tryz.prog k5 (Array.mk [v6, Value.string k]) h1 fun (v7 : Value) (h8 : Heap) =>
 ∃ (s9 : ByteArray),
 ∃ (b10 : Bool),
 ∃ (n11 : Int),
 v7 = Value.tuple (Array.mk [Value.string s9, Value.bool b10, Value.int IntKind.i64 n11]) ∧
 R (Value.tuple (Array.mk [Value.string s9, Value.bool b10, Value.int IntKind.i64 n11])) h8)) := by kernel_rfl

theorem vcStApply (s : Nat) (A : Option Addr) (n c : Nat) (h : Heap) (R : Value → Heap → Prop) :
    vcF Tryz.prog Tryz.f35 17 [] [] [.pointer (some ⟨s, 0, none⟩), .slice A n c] h R =
(HC Tryz.prog (48 : Nat) (Array.mk [Value.pointer (some (Addr.mk s (0 : Nat) none))]) h fun (v0 : Value) (h1 : Heap) =>
 ∃ (n2 : Int),
 v0 = Value.int IntKind.i64 n2 ∧
 br (n2 != (0 : Int)) (R (Value.int IntKind.i64 n2) h1)
 (∃ (p3 : Addr),
 some (Addr.mk s (0 : Nat) none) = some p3 ∧
 ∃ (v4 : Value),
 Reads Tryz.prog (Instr.loadAt (98 : Nat) (Value.pointer (some p3))) h1 v4 ∧
 ∃ (k5 : Nat),
 ∃ (v6 : Value),
 Meth Tryz.prog v4 "rootstock/store.apply" k5 v6 ∧
 HC Tryz.prog k5 (Array.mk [v6, Value.slice A n c]) h1 fun (v7 : Value) (h8 : Heap) => ∃ (n9 : Int), v7 = Value.int IntKind.i64 n9 ∧ R (Value.int IntKind.i64 n9) h8)) := by kernel_rfl

theorem vcStScan (s : Nat) (k : ByteArray) (n : Int) (h : Heap) (R : Value → Heap → Prop) :
    vcF Tryz.prog Tryz.f51 23 [] [] [.pointer (some ⟨s, 0, none⟩), .string k, .int .i64 n] h R =
(HC Tryz.prog (48 : Nat) (Array.mk [Value.pointer (some (Addr.mk s (0 : Nat) none))]) h fun (v0 : Value) (h1 : Heap) =>
 ∃ (n2 : Int),
 v0 = Value.int IntKind.i64 n2 ∧
 br (n2 != (0 : Int)) (R (Value.tuple (Array.mk [Value.slice none (0 : Nat) (0 : Nat), Value.int IntKind.i64 n2])) h1)
 (∃ (p3 : Addr),
 some (Addr.mk s (0 : Nat) none) = some p3 ∧
 ∃ (v4 : Value),
 Reads Tryz.prog (Instr.loadAt (98 : Nat) (Value.pointer (some p3))) h1 v4 ∧
 ∃ (k5 : Nat),
 ∃ (v6 : Value),
 Meth Tryz.prog v4 "rootstock/store.scan" k5 v6 ∧
 HC Tryz.prog k5 (Array.mk [v6, Value.string k, Value.int IntKind.i64 n]) h1 fun (v7 : Value) (h8 : Heap) =>
 ∃ (a9 : Option Addr),
 ∃ (k10 : Nat),
 ∃ (k11 : Nat),
 ∃ (n12 : Int),
 v7 = Value.tuple (Array.mk [Value.slice a9 k10 k11, Value.int IntKind.i64 n12]) ∧ R (Value.tuple (Array.mk [Value.slice a9 k10 k11, Value.int IntKind.i64 n12])) h8)) := by kernel_rfl

theorem vcMGet (m : Nat) (k : ByteArray) (h : Heap) (R : Value → Heap → Prop) :
    vcF Tryz.prog Tryz.f228 18 [] [] [.agg #[.map (some m)], .string k] h R =
(∃ (a0 : Option Nat),
 Reads Tryz.prog (Instr.loadAt (94 : Nat) (Value.pointer (some (Addr.mk (Array.size h) (0 : Nat) none)))) (Array.push h (Obj.cells (Array.mk [Value.map (some m)]) (96 : Nat))) (Value.map a0) ∧
 ∃ (s1 : ByteArray),
 ∃ (b2 : Bool),
 Reads Tryz.prog (Instr.lookup (94 : Nat) (Value.map a0) (Value.string k) true) (Array.push h (Obj.cells (Array.mk [Value.map (some m)]) (96 : Nat)))
 (Value.tuple (Array.mk [Value.string s1, Value.bool b2])) ∧
 R (Value.tuple (Array.mk [Value.string s1, Value.bool b2, Value.int IntKind.i64 (0 : Int)])) (Array.push h (Obj.cells (Array.mk [Value.map (some m)]) (96 : Nat)))) := by kernel_rfl

theorem vcMApply (m : Nat) (A : Option Addr) (n c : Nat) (h : Heap) (R : Value → Heap → Prop) :
    vcF Tryz.prog Tryz.f227 35 [] [] [.agg #[.map (some m)], .slice A n c] h R =
(br (bif decide ((↑n : Int) > (1024 : Int)) then false else true)
 (HC Tryz.prog (232 : Nat) (Array.mk [Value.slice A n c, Value.func (Fn.func (231 : Nat)) (Array.mk []) (Array.mk [])]) (Array.push h (Obj.cells (Array.mk [Value.map (some m)]) (96 : Nat)))
 fun (v0 : Value) (h1 : Heap) =>
 ∃ (b2 : Bool),
 v0 = Value.bool b2 ∧
 br b2 (R (Value.int IntKind.i64 (3 : Int)) h1)
 (∃ (I3 : Int → Heap → Prop),
 ∃ (I4 : Int → Heap → Nat),
 I3 (0 : Int) h1 ∧
 ∀ (n5 : Int) (h6 : Heap),
 I3 n5 h6 →
 br (decide (n5 < (↑n : Int)))
 (∃ (p7 : Addr),
 (A = some p7 ∧ (0 : Int) ≤ n5 ∧ n5 < (↑n : Int)) ∧
 ∃ (s8 : ByteArray),
 ∃ (s9 : ByteArray),
 ∃ (b10 : Bool),
 Reads Tryz.prog (Instr.loadAt (31 : Nat) (Value.pointer (some (p7.add (n5.toNat * (3 : Nat)))))) h6
 (Value.agg (Array.mk [Value.string s8, Value.string s9, Value.bool b10])) ∧
 SVC Tryz.prog
 (Instr.storeAt (31 : Nat) (Value.pointer (some (Addr.mk (Array.size h6) (0 : Nat) none))) (Value.agg (Array.mk [Value.string s8, Value.string s9, Value.bool b10])))
 (Array.push h6 (Obj.cells (Array.mk [Value.string (ByteArray.mk (Array.mk [])), Value.string (ByteArray.mk (Array.mk [])), Value.bool false]) (31 : Nat)))
 fun (x11 : Unit) (h12 : Heap) =>
 ∃ (b13 : Bool),
 Reads Tryz.prog (Instr.loadAt (4 : Nat) (Value.pointer (some ((Addr.mk (Array.size h6) (0 : Nat) none).add (2 : Nat))))) h12 (Value.bool b13) ∧
 br b13
 (∃ (a14 : Option Nat),
 Reads Tryz.prog (Instr.loadAt (94 : Nat) (Value.pointer (some (Addr.mk (Array.size h) (0 : Nat) none)))) h12 (Value.map a14) ∧
 ∃ (s15 : ByteArray),
 Reads Tryz.prog (Instr.loadAt (9 : Nat) (Value.pointer (some (Addr.mk (Array.size h6) (0 : Nat) none)))) h12 (Value.string s15) ∧
 SVC Tryz.prog (Builtin.delete_ (Array.mk [(94 : Nat), (9 : Nat)]) (0 : Nat) (Array.mk [Value.map a14, Value.string s15])) h12
 fun (v16 : Value) (h17 : Heap) =>
 v16 = Value.tuple (Array.mk []) ∧ I3 (IntKind.i64.wrap (n5 + (1 : Int))) h17 ∧ I4 (IntKind.i64.wrap (n5 + (1 : Int))) h17 < I4 n5 h6)
 (∃ (a18 : Option Nat),
 Reads Tryz.prog (Instr.loadAt (94 : Nat) (Value.pointer (some (Addr.mk (Array.size h) (0 : Nat) none)))) h12 (Value.map a18) ∧
 ∃ (s19 : ByteArray),
 Reads Tryz.prog (Instr.loadAt (9 : Nat) (Value.pointer (some (Addr.mk (Array.size h6) (0 : Nat) none)))) h12 (Value.string s19) ∧
 ∃ (s20 : ByteArray),
 Reads Tryz.prog (Instr.loadAt (9 : Nat) (Value.pointer (some ((Addr.mk (Array.size h6) (0 : Nat) none).add (1 : Nat))))) h12 (Value.string s20) ∧
 SVC Tryz.prog (Instr.mapUpdate (94 : Nat) (Value.map a18) (Value.string s19) (Value.string s20)) h12 fun (x21 : Unit) (h22 : Heap) =>
 I3 (IntKind.i64.wrap (n5 + (1 : Int))) h22 ∧ I4 (IntKind.i64.wrap (n5 + (1 : Int))) h22 < I4 n5 h6))
 (R (Value.int IntKind.i64 (0 : Int)) h6)))
 (R (Value.int IntKind.i64 (3 : Int)) (Array.push h (Obj.cells (Array.mk [Value.map (some m)]) (96 : Nat))))) := by kernel_rfl

theorem vcMLong (k v : ByteArray) (g : Bool) (h : Heap) (R : Value → Heap → Prop) :
    vcF Tryz.prog Tryz.f231 13 [] [] [.agg #[.string k, .string v, .bool g]] h R =
(∃ (s0 : ByteArray),
 Reads Tryz.prog (Instr.loadAt (9 : Nat) (Value.pointer (some (Addr.mk (Array.size h) (0 : Nat) none))))
 (Array.push h (Obj.cells (Array.mk [Value.string k, Value.string v, Value.bool g]) (31 : Nat))) (Value.string s0) ∧
 ∃ (s1 : ByteArray),
 ((!decide ((↑s0.size : Int) > (48 : Int))) = true →
 Reads Tryz.prog (Instr.loadAt (9 : Nat) (Value.pointer (some ((Addr.mk (Array.size h) (0 : Nat) none).add (1 : Nat)))))
 (Array.push h (Obj.cells (Array.mk [Value.string k, Value.string v, Value.bool g]) (31 : Nat))) (Value.string s1)) ∧
 R (Value.bool (decide ((↑s0.size : Int) > (48 : Int)) || decide ((↑s1.size : Int) > (160 : Int))))
 (Array.push h (Obj.cells (Array.mk [Value.string k, Value.string v, Value.bool g]) (31 : Nat)))) := by kernel_rfl

theorem vcMScan (m : Nat) (k : ByteArray) (n : Int) (h : Heap) (R : Value → Heap → Prop) :
    vcF Tryz.prog Tryz.f229 37 [] [] [.agg #[.map (some m)], .string k, .int .i64 n] h R =
(∃ (a0 : Option Nat),
 Reads Tryz.prog (Instr.loadAt (94 : Nat) (Value.pointer (some (Addr.mk (Array.size h) (0 : Nat) none)))) (Array.push h (Obj.cells (Array.mk [Value.map (some m)]) (96 : Nat))) (Value.map a0) ∧
 SVC Tryz.prog (Instr.range (94 : Nat) (Value.map a0)) (Array.push h (Obj.cells (Array.mk [Value.map (some m)]) (96 : Nat))) fun (v1 : Value) (h2 : Heap) =>
 ∃ (a3 : Option Addr),
 v1 = Value.pointer a3 ∧
 ∃ (I4 : Option Addr → Nat → Nat → Heap → Prop),
 ∃ (I5 : Option Addr → Nat → Nat → Heap → Nat),
 I4 none (0 : Nat) (0 : Nat) h2 ∧
 ∀ (a6 : Option Addr) (k7 k8 : Nat) (h9 : Heap),
 I4 a6 k7 k8 h9 →
 SVC Tryz.prog (Instr.next (Value.pointer a3) false (0 : Nat)) h9 fun (v10 : Value) (h11 : Heap) =>
 (v10 = Value.tuple (Array.mk [Value.bool false]) ∧
 HC Tryz.prog (233 : Nat) (Array.mk [Value.slice a6 k7 k8, Value.func (Fn.func (234 : Nat)) (Array.mk []) (Array.mk [])]) h11 fun (v12 : Value) (h13 : Heap) =>
 v12 = Value.tuple (Array.mk []) ∧
 ∃ (n14 : Int),
 Reads Tryz.prog (Builtin.min_ (Array.mk [(3 : Nat), (3 : Nat)]) (3 : Nat) (Array.mk [Value.int IntKind.i64 n, Value.int IntKind.i64 (↑k7 : Int)])) h13
 (Value.int IntKind.i64 n14) ∧
 ∃ (n15 : Int),
 Reads Tryz.prog (Builtin.max_ (Array.mk [(3 : Nat), (3 : Nat)]) (3 : Nat) (Array.mk [Value.int IntKind.i64 n14, Value.int IntKind.i64 (0 : Int)])) h13
 (Value.int IntKind.i64 n15) ∧
 ((0 : Int) ≤ n15 ∧ n15 ≤ (↑k8 : Int) ∧ (↑k8 : Int) ≤ (↑k8 : Int)) ∧
 R (Value.tuple (Array.mk [Value.slice a6 n15.toNat k8, Value.int IntKind.i64 (0 : Int)])) h13) ∨
 ∃ (v16 : Value),
 ∃ (v17 : Value),
 v10 = Value.tuple (Array.mk [Value.bool true, v16, v17]) ∧
 ∃ (s18 : ByteArray),
 ∃ (s19 : ByteArray),
 Reads Tryz.prog (Instr.entry (Value.pointer a3)) h11 (Value.tuple (Array.mk [Value.string s18, Value.string s19])) ∧
 br (!Op.bytesLess s18.toList k.toList)
 (SVC Tryz.prog (Instr.buildSlice (51 : Nat) (1 : Nat) (Array.mk [((0 : Nat), Value.agg (Array.mk [Value.string s18, Value.string s19]))])) h11
 fun (v20 : Value) (h21 : Heap) =>
 ∃ (a22 : Option Addr),
 ∃ (k23 : Nat),
 ∃ (k24 : Nat),
 v20 = Value.slice a22 k23 k24 ∧
 SVC Tryz.prog (Builtin.append_ (Array.mk [(51 : Nat), (51 : Nat)]) (51 : Nat) (Array.mk [Value.slice a6 k7 k8, Value.slice a22 k23 k24])) h21
 fun (v25 : Value) (h26 : Heap) =>
 ∃ (a27 : Option Addr), ∃ (k28 : Nat), ∃ (k29 : Nat), v25 = Value.slice a27 k28 k29 ∧ I4 a27 k28 k29 h26 ∧ I5 a27 k28 k29 h26 < I5 a6 k7 k8 h9)
 (I4 a6 k7 k8 h11 ∧ I5 a6 k7 k8 h11 < I5 a6 k7 k8 h9)) := by kernel_rfl

theorem vcMLess (k v l u : ByteArray) (h : Heap) (R : Value → Heap → Prop) :
    vcF Tryz.prog Tryz.f234 10 [] [] [.agg #[.string k, .string v], .agg #[.string l, .string u]] h R =
(∃ (s0 : ByteArray),
 Reads Tryz.prog (Instr.loadAt (9 : Nat) (Value.pointer (some (Addr.mk (Array.size h) (0 : Nat) none))))
 ((Array.push h (Obj.cells (Array.mk [Value.string k, Value.string v]) (65 : Nat))).push (Obj.cells (Array.mk [Value.string l, Value.string u]) (65 : Nat))) (Value.string s0) ∧
 ∃ (s1 : ByteArray),
 Reads Tryz.prog (Instr.loadAt (9 : Nat) (Value.pointer (some (Addr.mk (Array.push h (Obj.cells (Array.mk [Value.string k, Value.string v]) (65 : Nat))).size (0 : Nat) none))))
 ((Array.push h (Obj.cells (Array.mk [Value.string k, Value.string v]) (65 : Nat))).push (Obj.cells (Array.mk [Value.string l, Value.string u]) (65 : Nat))) (Value.string s1) ∧
 HC Tryz.prog (235 : Nat) (Array.mk [Value.string s0, Value.string s1])
 ((Array.push h (Obj.cells (Array.mk [Value.string k, Value.string v]) (65 : Nat))).push (Obj.cells (Array.mk [Value.string l, Value.string u]) (65 : Nat))) fun (v2 : Value) (h3 : Heap) =>
 ∃ (n4 : Int), v2 = Value.int IntKind.i64 n4 ∧ R (Value.int IntKind.i64 n4) h3) := by kernel_rfl

theorem vcContW (A : Option Addr) (n c : Nat) (g : Nat) (h : Heap) (R : Value → Heap → Prop) :
    vcF Tryz.prog Tryz.f232 9 [] [] [.slice A n c, .func (.func g) #[] #[]] h R =
(HC Tryz.prog (236 : Nat) (Array.mk [Value.slice A n c, Value.func (Fn.func g) (Array.mk []) (Array.mk [])]) h fun (v0 : Value) (h1 : Heap) =>
 ∃ (n2 : Int), v0 = Value.int IntKind.i64 n2 ∧ R (Value.bool (decide (n2 ≥ (0 : Int)))) h1) := by kernel_rfl

theorem vcIdxW (A : Option Addr) (n c : Nat) (g : Nat) (h : Heap) (R : Value → Heap → Prop) :
    vcF Tryz.prog Tryz.f236 19 [] [] [.slice A n c, .func (.func g) #[] #[]] h R =
(∃ (I0 : Int → Int → Heap → Prop),
 ∃ (I1 : Int → Int → Heap → Nat),
 I0 (0 : Int) (0 : Int) h ∧
 ∀ (n2 n3 : Int) (h4 : Heap),
 I0 n2 n3 h4 →
 br (decide (n3 < (↑n : Int)))
 (∃ (p5 : Addr),
 (A = some p5 ∧ (0 : Int) ≤ n3 ∧ n3 < (↑n : Int)) ∧
 ∃ (s6 : ByteArray),
 ∃ (s7 : ByteArray),
 ∃ (b8 : Bool),
 Reads Tryz.prog (Instr.loadAt (31 : Nat) (Value.pointer (some (p5.add (n3.toNat * (3 : Nat)))))) h4 (Value.agg (Array.mk [Value.string s6, Value.string s7, Value.bool b8])) ∧
 br (fnOk Tryz.prog g)
 (HC Tryz.prog g (Array.mk [Value.agg (Array.mk [Value.string s6, Value.string s7, Value.bool b8])]) h4 fun (v9 : Value) (h10 : Heap) =>
 ∃ (b11 : Bool),
 v9 = Value.bool b11 ∧
 br b11 (R (Value.int IntKind.i64 n3) h10) (I0 n2 (IntKind.i64.wrap (n3 + (1 : Int))) h10 ∧ I1 n2 (IntKind.i64.wrap (n3 + (1 : Int))) h10 < I1 n2 n3 h4))
 False)
 (R (Value.int IntKind.i64 (-1 : Int)) h4)) := by kernel_rfl
end Go.Proofs.YtmdcfmhkfomoaaaGreatDoor
