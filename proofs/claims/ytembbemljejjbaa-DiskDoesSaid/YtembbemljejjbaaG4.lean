/-
  What a call of each function comes to, as the symbolic run tells it: by the kernel's own reckoning. Conditions: none.
-/
import Derived.Test.YtembbemljejjbaaVcE
import Derived.Test.YtembbemljejjbaaProg
import Derived.KernelRfl
set_option linter.unusedVariables false
set_option maxRecDepth 100000
namespace Go.Proofs.Ytembbemljejjbaa
open Go Go.Vc Go.Proofs

theorem vcDoes (d : Nat) (s : ByteArray) (f : Nat) (cap : Array Value) (h : Heap) (R : Value → Heap → Prop) :
    vcF Try.prog Try.f50 31 [] [] [.pointer (some ⟨d, 0, none⟩), .string s, .func (.func f) #[] cap] h R =
(HC Try.prog (47 : Nat) (Array.mk [Value.pointer (some (Addr.mk d (0 : Nat) none))]) h fun (v0 : Value) (h1 : Heap) =>
 ∃ (n2 : Int),
 v0 = Value.int IntKind.i64 n2 ∧
 br (n2 != (0 : Int)) (R (Value.int IntKind.i64 n2) h1)
 (HC Try.prog (23 : Nat) (Array.mk [Value.pointer (some (Addr.mk d (0 : Nat) none)), Value.string s]) h1 fun (v3 : Value) (h4 : Heap) =>
 ∃ (b5 : Bool),
 v3 = Value.bool b5 ∧
 br (!b5) (R (Value.int IntKind.i64 (5 : Int)) h4)
 (HC Try.prog (48 : Nat) (Array.mk [Value.pointer (some (Addr.mk d (0 : Nat) none))]) h4 fun (v6 : Value) (h7 : Heap) =>
 ∃ (b8 : Bool),
 v6 = Value.bool b8 ∧
 br b8
 (∃ (p9 : Addr),
 some (Addr.mk d (0 : Nat) none) = some p9 ∧
 ∃ (n10 : Int),
 Reads Try.prog (Instr.loadAt (34 : Nat) (Value.pointer (some (p9.add (9 : Nat))))) h7 (Value.int IntKind.u64 n10) ∧
 HC Try.prog (19 : Nat) (Array.mk [Value.pointer (some (Addr.mk d (0 : Nat) none)), Value.int IntKind.u64 n10]) h7 fun (v11 : Value) (h12 : Heap) =>
 v11 = Value.tuple (Array.mk []) ∧ R (Value.int IntKind.i64 (8 : Int)) h12)
 (∃ (p13 : Addr),
 some (Addr.mk d (0 : Nat) none) = some p13 ∧
 ∃ (a14 : Option Nat),
 ∃ (a15 : Option Nat),
 Reads Try.prog (Instr.loadAt (87 : Nat) (Value.pointer (some p13))) h7 (Value.agg (Array.mk [Value.map a14, Value.map a15])) ∧
 br (fnOk Try.prog f)
 (HC Try.prog f (Array.mk [Value.agg (Array.mk [Value.map a14, Value.map a15])] ++ cap) h7 fun (v16 : Value) (h17 : Heap) =>
 v16 = Value.tuple (Array.mk []) ∧ R (Value.int IntKind.i64 (0 : Int)) h17)
 False)))) := by kernel_rfl

theorem vcDelF (A : Option Addr) (n c : Nat) (f : Nat) (cap : Array Value) (h : Heap) (R : Value → Heap → Prop) :
    vcF Try.prog Try.f55 42 [] [] [.slice A n c, .func (.func f) #[] cap] h R =
(HC Try.prog (91 : Nat) (Array.mk [Value.slice A n c, Value.func (Fn.func f) (Array.mk []) cap]) h fun (v0 : Value) (h1 : Heap) =>
 ∃ (n2 : Int),
 v0 = Value.int IntKind.i64 n2 ∧
 br (n2 == (-1 : Int)) (R (Value.slice A n c) h1)
 (∃ (I3 : Int → Int → Heap → Prop),
 ∃ (I4 : Int → Int → Heap → Nat),
 I3 n2 (IntKind.i64.wrap (n2 + (1 : Int))) h1 ∧
 ∀ (n5 n6 : Int) (h7 : Heap),
 I3 n5 n6 h7 →
 br (decide (n6 < (↑n : Int)))
 (∃ (p8 : Addr),
 (A = some p8 ∧ (0 : Int) ≤ n6 ∧ n6 < (↑n : Int)) ∧
 ∃ (h9 : Array Value),
 Reads Try.prog (Instr.loadAt (98 : Nat) (Value.pointer (some (p8.add (n6.toNat * (514 : Nat)))))) h7 (Value.agg h9) ∧
 ∃ (h10 : Array Value),
 IsZ Try.prog (98 : Nat) h10 ∧
 SVC Try.prog (Instr.storeAt (98 : Nat) (Value.pointer (some (Addr.mk (Array.size h7) (0 : Nat) none))) (Value.agg h9)) (Array.push h7 (Obj.cells h10 (98 : Nat)))
 fun (x11 : Unit) (h12 : Heap) =>
 ∃ (h13 : Array Value),
 Reads Try.prog (Instr.loadAt (98 : Nat) (Value.pointer (some (Addr.mk (Array.size h7) (0 : Nat) none)))) h12 (Value.agg h13) ∧
 br (fnOk Try.prog f)
 (HC Try.prog f (Array.mk [Value.agg h13] ++ cap) h12 fun (v14 : Value) (h15 : Heap) =>
 ∃ (b16 : Bool),
 v14 = Value.bool b16 ∧
 br (!b16)
 (∃ (h17 : Array Value),
 Reads Try.prog (Instr.loadAt (98 : Nat) (Value.pointer (some (Addr.mk (Array.size h7) (0 : Nat) none)))) h15 (Value.agg h17) ∧
 ∃ (p18 : Addr),
 (A = some p18 ∧ (0 : Int) ≤ n5 ∧ n5 < (↑n : Int)) ∧
 SVC Try.prog (Instr.storeAt (98 : Nat) (Value.pointer (some (p18.add (n5.toNat * (514 : Nat))))) (Value.agg h17)) h15
 fun (x19 : Unit) (h20 : Heap) =>
 I3 (IntKind.i64.wrap (n5 + (1 : Int))) (IntKind.i64.wrap (n6 + (1 : Int))) h20 ∧
 I4 (IntKind.i64.wrap (n5 + (1 : Int))) (IntKind.i64.wrap (n6 + (1 : Int))) h20 < I4 n5 n6 h7)
 (I3 n5 (IntKind.i64.wrap (n6 + (1 : Int))) h15 ∧ I4 n5 (IntKind.i64.wrap (n6 + (1 : Int))) h15 < I4 n5 n6 h7))
 False)
 (((0 : Int) ≤ n5 ∧ n5 ≤ (↑n : Int) ∧ (↑n : Int) ≤ (↑c : Int) ∧ (↑c : Int) ≤ (↑c : Int)) ∧
 SVC Try.prog (Builtin.clear_ (Array.mk [(89 : Nat)]) (0 : Nat) (Array.mk [Value.slice (subA A n5.toNat c (514 : Nat)) (n - n5.toNat) (c - n5.toNat)])) h7
 fun (v21 : Value) (h22 : Heap) => v21 = Value.tuple (Array.mk []) ∧ ((0 : Int) ≤ n5 ∧ n5 ≤ (↑c : Int) ∧ (↑c : Int) ≤ (↑c : Int)) ∧ R (Value.slice A n5.toNat c) h22))) := by kernel_rfl

theorem vcIdxF (A : Option Addr) (n c : Nat) (f : Nat) (cap : Array Value) (h : Heap) (R : Value → Heap → Prop) :
    vcF Try.prog Try.f91 19 [] [] [.slice A n c, .func (.func f) #[] cap] h R =
(∃ (I0 : Int → Int → Heap → Prop),
 ∃ (I1 : Int → Int → Heap → Nat),
 I0 (0 : Int) (0 : Int) h ∧
 ∀ (n2 n3 : Int) (h4 : Heap),
 I0 n2 n3 h4 →
 br (decide (n3 < (↑n : Int)))
 (∃ (p5 : Addr),
 (A = some p5 ∧ (0 : Int) ≤ n3 ∧ n3 < (↑n : Int)) ∧
 ∃ (h6 : Array Value),
 Reads Try.prog (Instr.loadAt (98 : Nat) (Value.pointer (some (p5.add (n3.toNat * (514 : Nat)))))) h4 (Value.agg h6) ∧
 br (fnOk Try.prog f)
 (HC Try.prog f (Array.mk [Value.agg h6] ++ cap) h4 fun (v7 : Value) (h8 : Heap) =>
 ∃ (b9 : Bool),
 v7 = Value.bool b9 ∧ br b9 (R (Value.int IntKind.i64 n3) h8) (I0 n2 (IntKind.i64.wrap (n3 + (1 : Int))) h8 ∧ I1 n2 (IntKind.i64.wrap (n3 + (1 : Int))) h8 < I1 n2 n3 h4))
 False)
 (R (Value.int IntKind.i64 (-1 : Int)) h4)) := by kernel_rfl

theorem vcSync1 (c p : Nat) (h : Heap) (R : Value → Heap → Prop) :
    vcF Try.prog Try.f51 2 [] [] [.agg #[.map (some c), .map (some p)]] h R =
(R (Value.tuple (Array.mk [])) (Array.push h (Obj.cells (Array.mk [Value.map (some c), Value.map (some p)]) (87 : Nat)))) := by kernel_rfl

theorem vcRename1 (c p : Nat) (h : Heap) (R : Value → Heap → Prop) :
    vcF Try.prog Try.f59 2 [] [] [.agg #[.map (some c), .map (some p)]] h R =
(R (Value.tuple (Array.mk [])) (Array.push h (Obj.cells (Array.mk [Value.map (some c), Value.map (some p)]) (87 : Nat)))) := by kernel_rfl

theorem vcRename2 (c p : Nat) (q r : Nat) (h : Heap) (R : Value → Heap → Prop) :
    vcF Try.prog Try.f60 8 [] [] [.agg #[.map (some c), .map (some p)], .pointer (some ⟨q, 0, none⟩), .pointer (some ⟨r, 0, none⟩)] h R =
(∃ (a0 : Option Nat),
 ∃ (a1 : Option Nat),
 Reads Try.prog (Instr.loadAt (87 : Nat) (Value.pointer (some (Addr.mk (Array.size h) (0 : Nat) none)))) (Array.push h (Obj.cells (Array.mk [Value.map (some c), Value.map (some p)]) (87 : Nat)))
 (Value.agg (Array.mk [Value.map a0, Value.map a1])) ∧
 ∃ (s2 : ByteArray),
 Reads Try.prog (Instr.loadAt (9 : Nat) (Value.pointer (some (Addr.mk q (0 : Nat) none)))) (Array.push h (Obj.cells (Array.mk [Value.map (some c), Value.map (some p)]) (87 : Nat)))
 (Value.string s2) ∧
 ∃ (s3 : ByteArray),
 Reads Try.prog (Instr.loadAt (9 : Nat) (Value.pointer (some (Addr.mk r (0 : Nat) none)))) (Array.push h (Obj.cells (Array.mk [Value.map (some c), Value.map (some p)]) (87 : Nat)))
 (Value.string s3) ∧
 HC Try.prog (61 : Nat) (Array.mk [Value.agg (Array.mk [Value.map a0, Value.map a1]), Value.string s2, Value.string s3])
 (Array.push h (Obj.cells (Array.mk [Value.map (some c), Value.map (some p)]) (87 : Nat))) fun (v4 : Value) (h5 : Heap) =>
 v4 = Value.tuple (Array.mk []) ∧ R (Value.tuple (Array.mk [])) h5) := by kernel_rfl

theorem vcRename3 (w : Array Value) (q : Nat) (h : Heap) (R : Value → Heap → Prop) :
    vcF Try.prog Try.f62 9 [] [] [.agg w, .pointer (some ⟨q, 0, none⟩)] h R =
(∃ (s0 : ByteArray),
 Reads Try.prog (Instr.loadAt (9 : Nat) (Value.pointer (some (Addr.mk (Array.size h) (0 : Nat) none)))) (Array.push h (Obj.cells w (98 : Nat))) (Value.string s0) ∧
 ∃ (s1 : ByteArray),
 Reads Try.prog (Instr.loadAt (9 : Nat) (Value.pointer (some (Addr.mk q (0 : Nat) none)))) (Array.push h (Obj.cells w (98 : Nat))) (Value.string s1) ∧
 R (Value.bool (s0.toList == s1.toList)) (Array.push h (Obj.cells w (98 : Nat)))) := by kernel_rfl

theorem vcCut1 (c p : Nat) (q r : Nat) (h : Heap) (R : Value → Heap → Prop) :
    vcF Try.prog Try.f53 8 [] [] [.agg #[.map (some c), .map (some p)], .pointer (some ⟨q, 0, none⟩), .pointer (some ⟨r, 0, none⟩)] h R =
(∃ (a0 : Option Nat),
 ∃ (a1 : Option Nat),
 Reads Try.prog (Instr.loadAt (87 : Nat) (Value.pointer (some (Addr.mk (Array.size h) (0 : Nat) none)))) (Array.push h (Obj.cells (Array.mk [Value.map (some c), Value.map (some p)]) (87 : Nat)))
 (Value.agg (Array.mk [Value.map a0, Value.map a1])) ∧
 ∃ (s2 : ByteArray),
 Reads Try.prog (Instr.loadAt (9 : Nat) (Value.pointer (some (Addr.mk q (0 : Nat) none)))) (Array.push h (Obj.cells (Array.mk [Value.map (some c), Value.map (some p)]) (87 : Nat)))
 (Value.string s2) ∧
 ∃ (n3 : Int),
 Reads Try.prog (Instr.loadAt (3 : Nat) (Value.pointer (some (Addr.mk r (0 : Nat) none)))) (Array.push h (Obj.cells (Array.mk [Value.map (some c), Value.map (some p)]) (87 : Nat)))
 (Value.int IntKind.i64 n3) ∧
 HC Try.prog (54 : Nat) (Array.mk [Value.agg (Array.mk [Value.map a0, Value.map a1]), Value.string s2, Value.int IntKind.i64 n3])
 (Array.push h (Obj.cells (Array.mk [Value.map (some c), Value.map (some p)]) (87 : Nat))) fun (v4 : Value) (h5 : Heap) =>
 v4 = Value.tuple (Array.mk []) ∧ R (Value.tuple (Array.mk [])) h5) := by kernel_rfl

theorem vcCut2 (w : Array Value) (q r : Nat) (h : Heap) (R : Value → Heap → Prop) :
    vcF Try.prog Try.f56 17 [] [] [.agg w, .pointer (some ⟨q, 0, none⟩), .pointer (some ⟨r, 0, none⟩)] h R =
(∃ (s0 : ByteArray),
 Reads Try.prog (Instr.loadAt (9 : Nat) (Value.pointer (some (Addr.mk (Array.size h) (0 : Nat) none)))) (Array.push h (Obj.cells w (98 : Nat))) (Value.string s0) ∧
 ∃ (s1 : ByteArray),
 Reads Try.prog (Instr.loadAt (9 : Nat) (Value.pointer (some (Addr.mk q (0 : Nat) none)))) (Array.push h (Obj.cells w (98 : Nat))) (Value.string s1) ∧
 ∃ (n2 : Int),
 ((s0.toList == s1.toList) = true →
 Reads Try.prog (Instr.loadAt (3 : Nat) (Value.pointer (some ((Addr.mk (Array.size h) (0 : Nat) none).add (1 : Nat))))) (Array.push h (Obj.cells w (98 : Nat)))
 (Value.int IntKind.i64 n2)) ∧
 ∃ (n3 : Int),
 ((s0.toList == s1.toList) = true →
 Reads Try.prog (Instr.loadAt (3 : Nat) (Value.pointer (some (Addr.mk r (0 : Nat) none)))) (Array.push h (Obj.cells w (98 : Nat))) (Value.int IntKind.i64 n3)) ∧
 R (Value.bool (s0.toList == s1.toList && decide (n2 ≥ n3))) (Array.push h (Obj.cells w (98 : Nat)))) := by kernel_rfl

theorem vcRemove1 (c p : Nat) (q : Nat) (h : Heap) (R : Value → Heap → Prop) :
    vcF Try.prog Try.f57 9 [] [] [.agg #[.map (some c), .map (some p)], .pointer (some ⟨q, 0, none⟩)] h R =
(∃ (a0 : Option Nat),
 ∃ (a1 : Option Nat),
 Reads Try.prog (Instr.loadAt (87 : Nat) (Value.pointer (some (Addr.mk (Array.size h) (0 : Nat) none)))) (Array.push h (Obj.cells (Array.mk [Value.map (some c), Value.map (some p)]) (87 : Nat)))
 (Value.agg (Array.mk [Value.map a0, Value.map a1])) ∧
 ∃ (s2 : ByteArray),
 Reads Try.prog (Instr.loadAt (9 : Nat) (Value.pointer (some (Addr.mk q (0 : Nat) none)))) (Array.push h (Obj.cells (Array.mk [Value.map (some c), Value.map (some p)]) (87 : Nat)))
 (Value.string s2) ∧
 HC Try.prog (54 : Nat) (Array.mk [Value.agg (Array.mk [Value.map a0, Value.map a1]), Value.string s2, Value.int IntKind.i64 (0 : Int)])
 (Array.push h (Obj.cells (Array.mk [Value.map (some c), Value.map (some p)]) (87 : Nat))) fun (v3 : Value) (h4 : Heap) =>
 v3 = Value.tuple (Array.mk []) ∧
 ∃ (a5 : Option Nat),
 Reads Try.prog (Instr.loadAt (84 : Nat) (Value.pointer (some (Addr.mk (Array.size h) (0 : Nat) none)))) h4 (Value.map a5) ∧
 ∃ (s6 : ByteArray),
 Reads Try.prog (Instr.loadAt (9 : Nat) (Value.pointer (some (Addr.mk q (0 : Nat) none)))) h4 (Value.string s6) ∧
 SVC Try.prog (Builtin.delete_ (Array.mk [(84 : Nat), (9 : Nat)]) (0 : Nat) (Array.mk [Value.map a5, Value.string s6])) h4 fun (v7 : Value) (h8 : Heap) =>
 v7 = Value.tuple (Array.mk []) ∧ R (Value.tuple (Array.mk [])) h8) := by kernel_rfl

theorem vcRemove2 (w : Array Value) (q : Nat) (h : Heap) (R : Value → Heap → Prop) :
    vcF Try.prog Try.f58 9 [] [] [.agg w, .pointer (some ⟨q, 0, none⟩)] h R =
(∃ (s0 : ByteArray),
 Reads Try.prog (Instr.loadAt (9 : Nat) (Value.pointer (some (Addr.mk (Array.size h) (0 : Nat) none)))) (Array.push h (Obj.cells w (98 : Nat))) (Value.string s0) ∧
 ∃ (s1 : ByteArray),
 Reads Try.prog (Instr.loadAt (9 : Nat) (Value.pointer (some (Addr.mk q (0 : Nat) none)))) (Array.push h (Obj.cells w (98 : Nat))) (Value.string s1) ∧
 R (Value.bool (s0.toList == s1.toList)) (Array.push h (Obj.cells w (98 : Nat)))) := by kernel_rfl

theorem vcSettle1 (w : Array Value) (q : Nat) (h : Heap) (R : Value → Heap → Prop) :
    vcF Try.prog Try.f90 9 [] [] [.agg w, .pointer (some ⟨q, 0, none⟩)] h R =
(∃ (s0 : ByteArray),
 Reads Try.prog (Instr.loadAt (9 : Nat) (Value.pointer (some (Addr.mk (Array.size h) (0 : Nat) none)))) (Array.push h (Obj.cells w (98 : Nat))) (Value.string s0) ∧
 ∃ (s1 : ByteArray),
 Reads Try.prog (Instr.loadAt (9 : Nat) (Value.pointer (some (Addr.mk q (0 : Nat) none)))) (Array.push h (Obj.cells w (98 : Nat))) (Value.string s1) ∧
 R (Value.bool (s0.toList == s1.toList)) (Array.push h (Obj.cells w (98 : Nat)))) := by kernel_rfl
end Go.Proofs.Ytembbemljejjbaa
