/-
  What a call of each function comes to, as the symbolic run tells it: by the kernel's own reckoning. Conditions: none.
-/
import Derived.Test.YtembbemljejjbaaVcE
import Derived.Test.YtembbemljejjbaaProg
import Derived.KernelRfl
set_option linter.unusedVariables false
set_option maxRecDepth 100000
namespace Go.Proofs.Ytembbemljejjbaa
open Go Go.Vc Go.Proofs

theorem vcCutD (d : Nat) (s : ByteArray) (n : Int) (h : Heap) (R : Value → Heap → Prop) :
    vcF Try.prog Try.f24 64 [11] [] [.pointer (some ⟨d, 0, none⟩), .string s, .int .i64 n] h R =
(HC Try.prog (47 : Nat) (Array.mk [Value.pointer (some (Addr.mk d (0 : Nat) none))])
 ((Array.push h (Obj.cells (Array.mk [Value.string s]) (9 : Nat))).push (Obj.cells (Array.mk [Value.int IntKind.i64 n]) (3 : Nat))) fun (v0 : Value) (h1 : Heap) =>
 ∃ (n2 : Int),
 v0 = Value.int IntKind.i64 n2 ∧
 br (n2 != (0 : Int)) (R (Value.int IntKind.i64 n2) h1)
 (∃ (s3 : ByteArray),
 Reads Try.prog (Instr.loadAt (9 : Nat) (Value.pointer (some (Addr.mk (Array.size h) (0 : Nat) none)))) h1 (Value.string s3) ∧
 HC Try.prog (23 : Nat) (Array.mk [Value.pointer (some (Addr.mk d (0 : Nat) none)), Value.string s3]) h1 fun (v4 : Value) (h5 : Heap) =>
 ∃ (b6 : Bool),
 v4 = Value.bool b6 ∧
 ∃ (n7 : Int),
 (b6 = true →
 Reads Try.prog (Instr.loadAt (3 : Nat) (Value.pointer (some (Addr.mk (Array.push h (Obj.cells (Array.mk [Value.string s]) (9 : Nat))).size (0 : Nat) none)))) h5
 (Value.int IntKind.i64 n7)) ∧
 br (b6 && decide (n7 < (0 : Int))) (R (Value.int IntKind.i64 (1 : Int)) h5)
 (∃ (s8 : ByteArray),
 Reads Try.prog (Instr.loadAt (9 : Nat) (Value.pointer (some (Addr.mk (Array.size h) (0 : Nat) none)))) h5 (Value.string s8) ∧
 HC Try.prog (50 : Nat)
 (Array.mk
 [Value.pointer (some (Addr.mk d (0 : Nat) none)), Value.string s8,
 Value.func (Fn.func (53 : Nat)) (Array.mk [])
 (Array.mk
 [Value.pointer (some (Addr.mk (Array.size h) (0 : Nat) none)),
 Value.pointer (some (Addr.mk (Array.push h (Obj.cells (Array.mk [Value.string s]) (9 : Nat))).size (0 : Nat) none))])])
 h5 fun (v9 : Value) (h10 : Heap) =>
 ∃ (n11 : Int),
 v9 = Value.int IntKind.i64 n11 ∧
 br (n11 == (0 : Int))
 (∃ (I12 : Heap → Prop),
 (∃ (p13 : Addr),
 some (Addr.mk d (0 : Nat) none) = some p13 ∧
 ∃ (a14 : Option Nat),
 Reads Try.prog (Instr.loadAt (84 : Nat) (Value.pointer (some (p13.add (2 : Nat))))) h10 (Value.map a14) ∧
 ∃ (s15 : ByteArray),
 Reads Try.prog (Instr.loadAt (9 : Nat) (Value.pointer (some (Addr.mk (Array.size h) (0 : Nat) none)))) h10 (Value.string s15) ∧
 ∃ (n16 : Int),
 ∃ (b17 : Bool),
 Reads Try.prog (Instr.lookup (84 : Nat) (Value.map a14) (Value.string s15) true) h10
 (Value.tuple (Array.mk [Value.int IntKind.i64 n16, Value.bool b17])) ∧
 br (!b17)
 (∃ (p18 : Addr),
 some (Addr.mk d (0 : Nat) none) = some p18 ∧
 ∃ (a19 : Option Nat),
 Reads Try.prog (Instr.loadAt (84 : Nat) (Value.pointer (some (p18.add (2 : Nat))))) h10 (Value.map a19) ∧
 ∃ (s20 : ByteArray),
 Reads Try.prog (Instr.loadAt (9 : Nat) (Value.pointer (some (Addr.mk (Array.size h) (0 : Nat) none)))) h10 (Value.string s20) ∧
 SVC Try.prog (Instr.mapUpdate (84 : Nat) (Value.map a19) (Value.string s20) (Value.int IntKind.i64 (0 : Int))) h10
 fun (x21 : Unit) (h22 : Heap) => I12 h22)
 (I12 h10)) ∧
 ∀ (h23 : Heap),
 I12 h23 →
 ∃ (p24 : Addr),
 some (Addr.mk d (0 : Nat) none) = some p24 ∧
 ∃ (a25 : Option Nat),
 ∃ (a26 : Option Nat),
 Reads Try.prog (Instr.loadAt (87 : Nat) (Value.pointer (some (p24.add (2 : Nat))))) h23 (Value.agg (Array.mk [Value.map a25, Value.map a26])) ∧
 ∃ (s27 : ByteArray),
 Reads Try.prog (Instr.loadAt (9 : Nat) (Value.pointer (some (Addr.mk (Array.size h) (0 : Nat) none)))) h23 (Value.string s27) ∧
 ∃ (n28 : Int),
 Reads Try.prog
 (Instr.loadAt (3 : Nat)
 (Value.pointer (some (Addr.mk (Array.push h (Obj.cells (Array.mk [Value.string s]) (9 : Nat))).size (0 : Nat) none))))
 h23 (Value.int IntKind.i64 n28) ∧
 HC Try.prog (54 : Nat) (Array.mk [Value.agg (Array.mk [Value.map a25, Value.map a26]), Value.string s27, Value.int IntKind.i64 n28]) h23
 fun (v29 : Value) (h30 : Heap) =>
 v29 = Value.tuple (Array.mk []) ∧
 ∃ (p31 : Addr),
 some (Addr.mk d (0 : Nat) none) = some p31 ∧
 ∃ (a32 : Option Addr),
 ∃ (k33 : Nat),
 ∃ (k34 : Nat),
 Reads Try.prog (Instr.loadAt (89 : Nat) (Value.pointer (some (p31.add (4 : Nat))))) h30 (Value.slice a32 k33 k34) ∧
 HC Try.prog (55 : Nat)
 (Array.mk
 [Value.slice a32 k33 k34,
 Value.func (Fn.func (56 : Nat)) (Array.mk [])
 (Array.mk
 [Value.pointer (some (Addr.mk (Array.size h) (0 : Nat) none)),
 Value.pointer
 (some (Addr.mk (Array.push h (Obj.cells (Array.mk [Value.string s]) (9 : Nat))).size (0 : Nat) none))])])
 h30 fun (v35 : Value) (h36 : Heap) =>
 ∃ (a37 : Option Addr),
 ∃ (k38 : Nat),
 ∃ (k39 : Nat),
 v35 = Value.slice a37 k38 k39 ∧
 ∃ (p40 : Addr),
 some (Addr.mk d (0 : Nat) none) = some p40 ∧
 SVC Try.prog (Instr.storeAt (89 : Nat) (Value.pointer (some (p40.add (4 : Nat)))) (Value.slice a37 k38 k39))
 h36 fun (x41 : Unit) (h42 : Heap) => R (Value.int IntKind.i64 n11) h42)
 (R (Value.int IntKind.i64 n11) h10)))) := by kernel_rfl
end Go.Proofs.Ytembbemljejjbaa
