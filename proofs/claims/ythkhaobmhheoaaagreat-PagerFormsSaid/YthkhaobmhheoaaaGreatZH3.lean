/-
  Texts of this seat, laid one behind the other: C3g. Conditions: none.
-/
import Derived.Test.YthkhaobmhheoaaaGreatVcE
import Derived.Test.YthkhaobmhheoaaaGreatProg
import Derived.KernelRfl
section
set_option linter.unusedVariables false
set_option maxRecDepth 100000
namespace Go.Proofs.YthkhaobmhheoaaaGreat
open Go Go.Vc Go.Proofs

theorem vcRrUint (r : Nat) (h : Heap) (R : Value → Heap → Prop) :
    vcF Tryz.prog Tryz.f84 89 [] [] [.pointer (some ⟨r, 0, none⟩)] h R =
(∃ (I0 : Int → Heap → Prop),
 ∃ (I1 : Int → Heap → Nat),
 I0 (0 : Int) h ∧
 ∀ (n2 : Int) (h3 : Heap),
 I0 n2 h3 →
 ∃ (p4 : Addr),
 some (Addr.mk r (0 : Nat) none) = some p4 ∧
 ∃ (s5 : ByteArray),
 Reads Tryz.prog (Instr.loadAt (9 : Nat) (Value.pointer (some p4))) h3 (Value.string s5) ∧
 ∃ (p6 : Addr),
 (decide (n2 < (↑s5.size : Int)) = true → some (Addr.mk r (0 : Nat) none) = some p6) ∧
 ∃ (s7 : ByteArray),
 (decide (n2 < (↑s5.size : Int)) = true → Reads Tryz.prog (Instr.loadAt (9 : Nat) (Value.pointer (some p6))) h3 (Value.string s7)) ∧
 (decide (n2 < (↑s5.size : Int)) = true → (0 : Int) ≤ n2 ∧ n2 < (↑s7.size : Int)) ∧
 br (decide (n2 < (↑s5.size : Int)) && decide (byteAt s7 n2 ≥ (128 : Int)))
 (I0 (IntKind.i64.wrap (n2 + (1 : Int))) h3 ∧ I1 (IntKind.i64.wrap (n2 + (1 : Int))) h3 < I1 n2 h3)
 (∃ (p8 : Addr),
 some (Addr.mk r (0 : Nat) none) = some p8 ∧
 ∃ (s9 : ByteArray),
 Reads Tryz.prog (Instr.loadAt (9 : Nat) (Value.pointer (some p8))) h3 (Value.string s9) ∧
 ∃ (p10 : Addr),
 ((decide (n2 > (0 : Int)) && !(decide (n2 ≥ (↑s9.size : Int)) || decide (n2 > (9 : Int)))) = true → some (Addr.mk r (0 : Nat) none) = some p10) ∧
 ∃ (s11 : ByteArray),
 ((decide (n2 > (0 : Int)) && !(decide (n2 ≥ (↑s9.size : Int)) || decide (n2 > (9 : Int)))) = true →
 Reads Tryz.prog (Instr.loadAt (9 : Nat) (Value.pointer (some p10))) h3 (Value.string s11)) ∧
 ((decide (n2 > (0 : Int)) && !(decide (n2 ≥ (↑s9.size : Int)) || decide (n2 > (9 : Int)))) = true → (0 : Int) ≤ n2 ∧ n2 < (↑s11.size : Int)) ∧
 br (decide (n2 ≥ (↑s9.size : Int)) || decide (n2 > (9 : Int)) || decide (n2 > (0 : Int)) && byteAt s11 n2 == (0 : Int))
 (HC Tryz.prog (85 : Nat) (Array.mk [Value.pointer (some (Addr.mk r (0 : Nat) none))]) h3 fun (v12 : Value) (h13 : Heap) =>
 v12 = Value.tuple (Array.mk []) ∧ R (Value.int IntKind.u64 (0 : Int)) h13)
 (∃ (p14 : Addr),
 ((n2 == (9 : Int)) = true → some (Addr.mk r (0 : Nat) none) = some p14) ∧
 ∃ (s15 : ByteArray),
 ((n2 == (9 : Int)) = true → Reads Tryz.prog (Instr.loadAt (9 : Nat) (Value.pointer (some p14))) h3 (Value.string s15)) ∧
 ((n2 == (9 : Int)) = true → (0 : Int) ≤ (9 : Int) ∧ (9 : Int) < (↑s15.size : Int)) ∧
 br (n2 == (9 : Int) && decide (byteAt s15 (9 : Int) > (1 : Int)))
 (HC Tryz.prog (85 : Nat) (Array.mk [Value.pointer (some (Addr.mk r (0 : Nat) none))]) h3 fun (v16 : Value) (h17 : Heap) =>
 v16 = Value.tuple (Array.mk []) ∧ R (Value.int IntKind.u64 (0 : Int)) h17)
 (∃ (I18 : Int → Int → Heap → Prop),
 ∃ (I19 : Int → Int → Heap → Nat),
 I18 (0 : Int) n2 h3 ∧
 ∀ (n20 n21 : Int) (h22 : Heap),
 I18 n20 n21 h22 →
 br (decide (n21 ≥ (0 : Int)))
 (∃ (p23 : Addr),
 some (Addr.mk r (0 : Nat) none) = some p23 ∧
 ∃ (s24 : ByteArray),
 Reads Tryz.prog (Instr.loadAt (9 : Nat) (Value.pointer (some p23))) h22 (Value.string s24) ∧
 ((0 : Int) ≤ n21 ∧ n21 < (↑s24.size : Int)) ∧
 (128 : Int) ≠ (0 : Int) ∧
 I18
 (IntKind.u64.wrap
 (IntKind.u64.wrap (n20 * (128 : Int)) + IntKind.u64.wrap ((byteAt s24 n21).tmod (128 : Int))))
 (IntKind.i64.wrap (n21 - (1 : Int))) h22 ∧
 I19
 (IntKind.u64.wrap
 (IntKind.u64.wrap (n20 * (128 : Int)) + IntKind.u64.wrap ((byteAt s24 n21).tmod (128 : Int))))
 (IntKind.i64.wrap (n21 - (1 : Int))) h22 <
 I19 n20 n21 h22)
 (∃ (p25 : Addr),
 some (Addr.mk r (0 : Nat) none) = some p25 ∧
 ∃ (s26 : ByteArray),
 Reads Tryz.prog (Instr.loadAt (9 : Nat) (Value.pointer (some p25))) h22 (Value.string s26) ∧
 ((0 : Int) ≤ IntKind.i64.wrap (n2 + (1 : Int)) ∧
 IntKind.i64.wrap (n2 + (1 : Int)) ≤ (↑s26.size : Int) ∧ (↑s26.size : Int) ≤ (↑s26.size : Int)) ∧
 ∃ (p27 : Addr),
 some (Addr.mk r (0 : Nat) none) = some p27 ∧
 SVC Tryz.prog
 (Instr.storeAt (9 : Nat) (Value.pointer (some p27))
 (Value.string (s26.extract (IntKind.i64.wrap (n2 + (1 : Int))).toNat s26.size)))
 h22 fun (x28 : Unit) (h29 : Heap) => R (Value.int IntKind.u64 n20) h29))))) := by kernel_rfl

theorem vcRrFail (r : Nat) (h : Heap) (R : Value → Heap → Prop) :
    vcF Tryz.prog Tryz.f85 8 [] [] [.pointer (some ⟨r, 0, none⟩)] h R =
(∃ (p0 : Addr),
 some (Addr.mk r (0 : Nat) none) = some p0 ∧
 SVC Tryz.prog (Instr.storeAt (4 : Nat) (Value.pointer (some (p0.add (1 : Nat)))) (Value.bool true)) h fun (x1 : Unit) (h2 : Heap) =>
 ∃ (p3 : Addr),
 some (Addr.mk r (0 : Nat) none) = some p3 ∧
 SVC Tryz.prog (Instr.storeAt (9 : Nat) (Value.pointer (some p3)) (Value.string (ByteArray.mk (Array.mk [])))) h2 fun (x4 : Unit) (h5 : Heap) => R (Value.tuple (Array.mk [])) h5) := by kernel_rfl

theorem vcRrTake (r : Nat) (n : Int) (h : Heap) (R : Value → Heap → Prop) :
    vcF Tryz.prog Tryz.f86 41 [] [] [.pointer (some ⟨r, 0, none⟩), .int .i64 n] h R =
(∃ (p0 : Addr),
 ((!decide (n < (0 : Int))) = true → some (Addr.mk r (0 : Nat) none) = some p0) ∧
 ∃ (s1 : ByteArray),
 ((!decide (n < (0 : Int))) = true → Reads Tryz.prog (Instr.loadAt (9 : Nat) (Value.pointer (some p0))) h (Value.string s1)) ∧
 ∃ (p2 : Addr),
 ((!(decide (n < (0 : Int)) || decide (n > (↑s1.size : Int)))) = true → some (Addr.mk r (0 : Nat) none) = some p2) ∧
 ∃ (b3 : Bool),
 ((!(decide (n < (0 : Int)) || decide (n > (↑s1.size : Int)))) = true → Reads Tryz.prog (Instr.loadAt (4 : Nat) (Value.pointer (some (p2.add (1 : Nat))))) h (Value.bool b3)) ∧
 br (decide (n < (0 : Int)) || decide (n > (↑s1.size : Int)) || b3)
 (HC Tryz.prog (85 : Nat) (Array.mk [Value.pointer (some (Addr.mk r (0 : Nat) none))]) h fun (v4 : Value) (h5 : Heap) =>
 v4 = Value.tuple (Array.mk []) ∧ R (Value.string (ByteArray.mk (Array.mk []))) h5)
 (∃ (p6 : Addr),
 some (Addr.mk r (0 : Nat) none) = some p6 ∧
 ∃ (s7 : ByteArray),
 Reads Tryz.prog (Instr.loadAt (9 : Nat) (Value.pointer (some p6))) h (Value.string s7) ∧
 ((0 : Int) ≤ (0 : Int) ∧ (0 : Int) ≤ n ∧ n ≤ (↑s7.size : Int)) ∧
 ∃ (p8 : Addr),
 some (Addr.mk r (0 : Nat) none) = some p8 ∧
 ∃ (s9 : ByteArray),
 Reads Tryz.prog (Instr.loadAt (9 : Nat) (Value.pointer (some p8))) h (Value.string s9) ∧
 ((0 : Int) ≤ n ∧ n ≤ (↑s9.size : Int) ∧ (↑s9.size : Int) ≤ (↑s9.size : Int)) ∧
 ∃ (p10 : Addr),
 some (Addr.mk r (0 : Nat) none) = some p10 ∧
 SVC Tryz.prog (Instr.storeAt (9 : Nat) (Value.pointer (some p10)) (Value.string (s9.extract n.toNat s9.size))) h fun (x11 : Unit) (h12 : Heap) =>
 R (Value.string (s7.extract (0 : Nat) n.toNat)) h12)) := by kernel_rfl

theorem vcRrText (r : Nat) (n : Int) (h : Heap) (R : Value → Heap → Prop) :
    vcF Tryz.prog Tryz.f50 28 [] [] [.pointer (some ⟨r, 0, none⟩), .int .i64 n] h R =
(HC Tryz.prog (84 : Nat) (Array.mk [Value.pointer (some (Addr.mk r (0 : Nat) none))]) h fun (v0 : Value) (h1 : Heap) =>
 ∃ (n2 : Int),
 v0 = Value.int IntKind.u64 n2 ∧
 ∃ (p3 : Addr),
 some (Addr.mk r (0 : Nat) none) = some p3 ∧
 ∃ (b4 : Bool),
 Reads Tryz.prog (Instr.loadAt (4 : Nat) (Value.pointer (some (p3.add (1 : Nat))))) h1 (Value.bool b4) ∧
 br (b4 || decide (n < (0 : Int)) || decide (n2 > IntKind.u64.wrap n))
 (HC Tryz.prog (85 : Nat) (Array.mk [Value.pointer (some (Addr.mk r (0 : Nat) none))]) h1 fun (v5 : Value) (h6 : Heap) =>
 v5 = Value.tuple (Array.mk []) ∧ R (Value.string (ByteArray.mk (Array.mk []))) h6)
 (HC Tryz.prog (86 : Nat) (Array.mk [Value.pointer (some (Addr.mk r (0 : Nat) none)), Value.int IntKind.i64 (IntKind.i64.wrap n2)]) h1 fun (v7 : Value) (h8 : Heap) =>
 ∃ (s9 : ByteArray), v7 = Value.string s9 ∧ R (Value.string s9) h8)) := by kernel_rfl

theorem vcRrGood (r : Nat) (h : Heap) (R : Value → Heap → Prop) :
    vcF Tryz.prog Tryz.f51 8 [] [] [.pointer (some ⟨r, 0, none⟩)] h R =
(∃ (p0 : Addr), some (Addr.mk r (0 : Nat) none) = some p0 ∧ ∃ (b1 : Bool), Reads Tryz.prog (Instr.loadAt (4 : Nat) (Value.pointer (some (p0.add (1 : Nat))))) h (Value.bool b1) ∧ R (Value.bool !b1) h) := by kernel_rfl

theorem vcRSplit (s : ByteArray) (h : Heap) (R : Value → Heap → Prop) :
    vcF Tryz.prog Tryz.f15 45 [] [] [.string s] h R =
(∃ (I0 : ByteArray → Option Addr → Nat → Nat → ByteArray → Option Addr → Nat → Nat → Heap → Prop),
 ∃ (I1 : ByteArray → Option Addr → Nat → Nat → ByteArray → Option Addr → Nat → Nat → Heap → Nat),
 I0 s none (0 : Nat) (0 : Nat) (ByteArray.mk (Array.mk [])) none (0 : Nat) (0 : Nat) h ∧
 ∀ (s2 : ByteArray) (a3 : Option Addr) (k4 k5 : Nat) (s6 : ByteArray) (a7 : Option Addr) (k8 k9 : Nat) (h10 : Heap),
 I0 s2 a3 k4 k5 s6 a7 k8 k9 h10 →
 HC Tryz.prog (50 : Nat) (Array.mk [Value.pointer (some (Addr.mk (Array.size h10) (0 : Nat) none)), Value.int IntKind.i64 (↑s2.size : Int)])
 (Array.push h10 (Obj.cells (Array.mk [Value.string s2, Value.bool false]) (90 : Nat))) fun (v11 : Value) (h12 : Heap) =>
 ∃ (s13 : ByteArray),
 v11 = Value.string s13 ∧
 HC Tryz.prog (51 : Nat) (Array.mk [Value.pointer (some (Addr.mk (Array.size h10) (0 : Nat) none))]) h12 fun (v14 : Value) (h15 : Heap) =>
 ∃ (b16 : Bool),
 v14 = Value.bool b16 ∧
 br (!b16) (R (Value.tuple (Array.mk [Value.slice a7 k8 k9, Value.string s2])) h15)
 (HC Tryz.prog (13 : Nat) (Array.mk [Value.string s13]) h15 fun (v17 : Value) (h18 : Heap) =>
 ∃ (s19 : ByteArray),
 v17 = Value.string s19 ∧
 ((!decide ((↑s2.size : Int) < (↑s19.size : Int))) = true → (0 : Int) ≤ (0 : Int) ∧ (0 : Int) ≤ (↑s19.size : Int) ∧ (↑s19.size : Int) ≤ (↑s2.size : Int)) ∧
 br (decide ((↑s2.size : Int) < (↑s19.size : Int)) || !(s2.extract (0 : Nat) s19.size).toList == s19.toList)
 (R (Value.tuple (Array.mk [Value.slice a7 k8 k9, Value.string s2])) h18)
 (SVC Tryz.prog (Instr.buildSlice (25 : Nat) (1 : Nat) (Array.mk [((0 : Nat), Value.string s13)])) h18 fun (v20 : Value) (h21 : Heap) =>
 ∃ (a22 : Option Addr),
 ∃ (k23 : Nat),
 ∃ (k24 : Nat),
 v20 = Value.slice a22 k23 k24 ∧
 SVC Tryz.prog (Builtin.append_ (Array.mk [(25 : Nat), (25 : Nat)]) (25 : Nat) (Array.mk [Value.slice a7 k8 k9, Value.slice a22 k23 k24])) h21
 fun (v25 : Value) (h26 : Heap) =>
 ∃ (a27 : Option Addr),
 ∃ (k28 : Nat),
 ∃ (k29 : Nat),
 v25 = Value.slice a27 k28 k29 ∧
 ((0 : Int) ≤ (↑s19.size : Int) ∧ (↑s19.size : Int) ≤ (↑s2.size : Int) ∧ (↑s2.size : Int) ≤ (↑s2.size : Int)) ∧
 I0 (s2.extract s19.size s2.size) a3 k4 k5 s6 a27 k28 k29 h26 ∧
 I1 (s2.extract s19.size s2.size) a3 k4 k5 s6 a27 k28 k29 h26 < I1 s2 a3 k4 k5 s6 a7 k8 k9 h10))) := by kernel_rfl
end Go.Proofs.YthkhaobmhheoaaaGreat
end
