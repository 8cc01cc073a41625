/-
  What a call of each function comes to, as the symbolic run tells it: by the kernel's own reckoning. Conditions: none.
-/
import Derived.Test.YtembbemljejjbaaVcE
import Derived.Test.YtembbemljejjbaaProg
import Derived.KernelRfl
set_option linter.unusedVariables false
set_option maxRecDepth 100000
namespace Go.Proofs.Ytembbemljejjbaa
open Go Go.Vc Go.Proofs

theorem vcRenameD (d : Nat) (s t : ByteArray) (h : Heap) (R : Value → Heap → Prop) :
    vcF Try.prog Try.f26 77 [3] [] [.pointer (some ⟨d, 0, none⟩), .string s, .string t] h R =
(∃ (I0 : Int → Heap → Prop),
 (HC Try.prog (47 : Nat) (Array.mk [Value.pointer (some (Addr.mk d (0 : Nat) none))])
 ((Array.push h (Obj.cells (Array.mk [Value.string s]) (9 : Nat))).push (Obj.cells (Array.mk [Value.string t]) (9 : Nat))) fun (v1 : Value) (h2 : Heap) =>
 ∃ (n3 : Int),
 v1 = Value.int IntKind.i64 n3 ∧
 ∃ (s4 : ByteArray),
 ((n3 == (0 : Int)) = true → Reads Try.prog (Instr.loadAt (9 : Nat) (Value.pointer (some (Addr.mk (Array.size h) (0 : Nat) none)))) h2 (Value.string s4)) ∧
 ∃ (s5 : ByteArray),
 ((n3 == (0 : Int)) = true →
 Reads Try.prog (Instr.loadAt (9 : Nat) (Value.pointer (some (Addr.mk (Array.push h (Obj.cells (Array.mk [Value.string s]) (9 : Nat))).size (0 : Nat) none)))) h2
 (Value.string s5)) ∧
 ∃ (s6 : ByteArray),
 ((n3 == (0 : Int) && s4.toList == s5.toList) = true → Reads Try.prog (Instr.loadAt (9 : Nat) (Value.pointer (some (Addr.mk (Array.size h) (0 : Nat) none)))) h2 (Value.string s6)) ∧
 br (n3 == (0 : Int) && s4.toList == s5.toList)
 (HC Try.prog (23 : Nat) (Array.mk [Value.pointer (some (Addr.mk d (0 : Nat) none)), Value.string s6]) h2 fun (v7 : Value) (h8 : Heap) =>
 ∃ (b9 : Bool),
 v7 = Value.bool b9 ∧
 br b9
 (∃ (s10 : ByteArray),
 Reads Try.prog (Instr.loadAt (9 : Nat) (Value.pointer (some (Addr.mk (Array.size h) (0 : Nat) none)))) h8 (Value.string s10) ∧
 HC Try.prog (50 : Nat) (Array.mk [Value.pointer (some (Addr.mk d (0 : Nat) none)), Value.string s10, Value.func (Fn.func (59 : Nat)) (Array.mk []) (Array.mk [])])
 h8 fun (v11 : Value) (h12 : Heap) => ∃ (n13 : Int), v11 = Value.int IntKind.i64 n13 ∧ R (Value.int IntKind.i64 n13) h12)
 (I0 (0 : Int) h8))
 (I0 (0 : Int) h2)) ∧
 ∀ (n14 : Int) (h15 : Heap),
 I0 n14 h15 →
 ∃ (s16 : ByteArray),
 Reads Try.prog (Instr.loadAt (9 : Nat) (Value.pointer (some (Addr.mk (Array.size h) (0 : Nat) none)))) h15 (Value.string s16) ∧
 HC Try.prog (50 : Nat)
 (Array.mk
 [Value.pointer (some (Addr.mk d (0 : Nat) none)), Value.string s16,
 Value.func (Fn.func (60 : Nat)) (Array.mk [])
 (Array.mk
 [Value.pointer (some (Addr.mk (Array.size h) (0 : Nat) none)),
 Value.pointer (some (Addr.mk (Array.push h (Obj.cells (Array.mk [Value.string s]) (9 : Nat))).size (0 : Nat) none))])])
 h15 fun (v17 : Value) (h18 : Heap) =>
 ∃ (n19 : Int),
 v17 = Value.int IntKind.i64 n19 ∧
 br (n19 == (0 : Int))
 (∃ (p20 : Addr),
 some (Addr.mk d (0 : Nat) none) = some p20 ∧
 ∃ (a21 : Option Addr),
 ∃ (k22 : Nat),
 ∃ (k23 : Nat),
 Reads Try.prog (Instr.loadAt (89 : Nat) (Value.pointer (some (p20.add (4 : Nat))))) h18 (Value.slice a21 k22 k23) ∧
 HC Try.prog (55 : Nat)
 (Array.mk
 [Value.slice a21 k22 k23,
 Value.func (Fn.func (62 : Nat)) (Array.mk [])
 (Array.mk [Value.pointer (some (Addr.mk (Array.push h (Obj.cells (Array.mk [Value.string s]) (9 : Nat))).size (0 : Nat) none))])])
 h18 fun (v24 : Value) (h25 : Heap) =>
 ∃ (a26 : Option Addr),
 ∃ (k27 : Nat),
 ∃ (k28 : Nat),
 v24 = Value.slice a26 k27 k28 ∧
 ∃ (p29 : Addr),
 some (Addr.mk d (0 : Nat) none) = some p29 ∧
 SVC Try.prog (Instr.storeAt (89 : Nat) (Value.pointer (some (p29.add (4 : Nat)))) (Value.slice a26 k27 k28)) h25 fun (x30 : Unit) (h31 : Heap) =>
 ∃ (p32 : Addr),
 some (Addr.mk d (0 : Nat) none) = some p32 ∧
 ∃ (a33 : Option Addr),
 ∃ (k34 : Nat),
 ∃ (k35 : Nat),
 Reads Try.prog (Instr.loadAt (89 : Nat) (Value.pointer (some (p32.add (4 : Nat))))) h31 (Value.slice a33 k34 k35) ∧
 ∃ (I36 : Int → Heap → Prop),
 ∃ (I37 : Int → Heap → Nat),
 I36 (0 : Int) h31 ∧
 ∀ (n38 : Int) (h39 : Heap),
 I36 n38 h39 →
 br (decide (n38 < (↑k34 : Int)))
 (∃ (p40 : Addr),
 some (Addr.mk d (0 : Nat) none) = some p40 ∧
 ∃ (a41 : Option Addr),
 ∃ (k42 : Nat),
 ∃ (k43 : Nat),
 Reads Try.prog (Instr.loadAt (89 : Nat) (Value.pointer (some (p40.add (4 : Nat))))) h39 (Value.slice a41 k42 k43) ∧
 ∃ (p44 : Addr),
 (a41 = some p44 ∧ (0 : Int) ≤ n38 ∧ n38 < (↑k42 : Int)) ∧
 ∃ (s45 : ByteArray),
 Reads Try.prog (Instr.loadAt (9 : Nat) (Value.pointer (some (p44.add (n38.toNat * (514 : Nat)))))) h39
 (Value.string s45) ∧
 ∃ (s46 : ByteArray),
 Reads Try.prog (Instr.loadAt (9 : Nat) (Value.pointer (some (Addr.mk (Array.size h) (0 : Nat) none)))) h39
 (Value.string s46) ∧
 br (s45.toList == s46.toList)
 (∃ (p47 : Addr),
 some (Addr.mk d (0 : Nat) none) = some p47 ∧
 ∃ (a48 : Option Addr),
 ∃ (k49 : Nat),
 ∃ (k50 : Nat),
 Reads Try.prog (Instr.loadAt (89 : Nat) (Value.pointer (some (p47.add (4 : Nat))))) h39
 (Value.slice a48 k49 k50) ∧
 ∃ (s51 : ByteArray),
 Reads Try.prog
 (Instr.loadAt (9 : Nat)
 (Value.pointer
 (some
 (Addr.mk (Array.push h (Obj.cells (Array.mk [Value.string s]) (9 : Nat))).size
 (0 : Nat) none))))
 h39 (Value.string s51) ∧
 ∃ (p52 : Addr),
 (a48 = some p52 ∧ (0 : Int) ≤ n38 ∧ n38 < (↑k49 : Int)) ∧
 SVC Try.prog
 (Instr.storeAt (9 : Nat)
 (Value.pointer (some (p52.add (n38.toNat * (514 : Nat))))) (Value.string s51))
 h39 fun (x53 : Unit) (h54 : Heap) =>
 I36 (IntKind.i64.wrap (n38 + (1 : Int))) h54 ∧
 I37 (IntKind.i64.wrap (n38 + (1 : Int))) h54 < I37 n38 h39)
 (I36 (IntKind.i64.wrap (n38 + (1 : Int))) h39 ∧
 I37 (IntKind.i64.wrap (n38 + (1 : Int))) h39 < I37 n38 h39))
 (∃ (p55 : Addr),
 some (Addr.mk d (0 : Nat) none) = some p55 ∧
 ∃ (a56 : Option Nat),
 ∃ (a57 : Option Nat),
 Reads Try.prog (Instr.loadAt (87 : Nat) (Value.pointer (some (p55.add (2 : Nat))))) h39
 (Value.agg (Array.mk [Value.map a56, Value.map a57])) ∧
 ∃ (s58 : ByteArray),
 Reads Try.prog (Instr.loadAt (9 : Nat) (Value.pointer (some (Addr.mk (Array.size h) (0 : Nat) none)))) h39
 (Value.string s58) ∧
 ∃ (s59 : ByteArray),
 Reads Try.prog
 (Instr.loadAt (9 : Nat)
 (Value.pointer
 (some (Addr.mk (Array.push h (Obj.cells (Array.mk [Value.string s]) (9 : Nat))).size (0 : Nat) none))))
 h39 (Value.string s59) ∧
 HC Try.prog (61 : Nat)
 (Array.mk [Value.agg (Array.mk [Value.map a56, Value.map a57]), Value.string s58, Value.string s59]) h39
 fun (v60 : Value) (h61 : Heap) => v60 = Value.tuple (Array.mk []) ∧ R (Value.int IntKind.i64 n19) h61))
 (R (Value.int IntKind.i64 n19) h18)) := by kernel_rfl
end Go.Proofs.Ytembbemljejjbaa
