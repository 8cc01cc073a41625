/-
  What calls of the law come to, as the symbolic run tells it: by the kernel's own reckoning. Conditions: none.
-/
import Derived.Test.YtembbemljejjbaaVcE
import Derived.Test.YtembbemljejjbaaProg
import Derived.KernelRfl
set_option linter.unusedVariables false
set_option maxRecDepth 100000
namespace Go.Proofs.Ytembbemljejjbaa
open Go Go.Vc Go.Proofs

theorem vcGreat (A : Option Addr) (n c : Nat) (h : Heap) (R : Value → Heap → Prop) :
    vcF Try.prog Try.f27 31 [] [] [.slice A n c] h R =
(∃ (I0 : Bool → Int → Int → Heap → Prop),
 ∃ (I1 : Bool → Int → Int → Heap → Nat),
 I0 false (0 : Int) (0 : Int) h ∧
 ∀ (b2 : Bool) (n3 n4 : Int) (h5 : Heap),
 I0 b2 n3 n4 h5 →
 br (decide (n4 < (↑n : Int)))
 (∃ (p6 : Addr),
 (A = some p6 ∧ (0 : Int) ≤ n4 ∧ n4 < (↑n : Int)) ∧
 ∃ (n7 : Int),
 ∃ (s8 : ByteArray),
 ∃ (s9 : ByteArray),
 ∃ (n10 : Int),
 ∃ (a11 : Option Addr),
 ∃ (k12 : Nat),
 ∃ (k13 : Nat),
 ∃ (n14 : Int),
 Reads Try.prog (Instr.loadAt (54 : Nat) (Value.pointer (some (p6.add (n4.toNat * (6 : Nat)))))) h5
 (Value.agg (Array.mk [Value.int IntKind.i64 n7, Value.string s8, Value.string s9, Value.int IntKind.i64 n10, Value.slice a11 k12 k13, Value.int IntKind.u64 n14])) ∧
 SVC Try.prog
 (Instr.storeAt (54 : Nat) (Value.pointer (some (Addr.mk (Array.size h5) (0 : Nat) none)))
 (Value.agg
 (Array.mk [Value.int IntKind.i64 n7, Value.string s8, Value.string s9, Value.int IntKind.i64 n10, Value.slice a11 k12 k13, Value.int IntKind.u64 n14])))
 (Array.push h5
 (Obj.cells
 (Array.mk
 [Value.int IntKind.i64 (0 : Int), Value.string (ByteArray.mk (Array.mk [])), Value.string (ByteArray.mk (Array.mk [])), Value.int IntKind.i64 (0 : Int),
 Value.slice none (0 : Nat) (0 : Nat), Value.int IntKind.u64 (0 : Int)])
 (54 : Nat)))
 fun (x15 : Unit) (h16 : Heap) =>
 ∃ (a17 : Option Addr),
 ∃ (k18 : Nat),
 ∃ (k19 : Nat),
 Reads Try.prog (Instr.loadAt (22 : Nat) (Value.pointer (some ((Addr.mk (Array.size h5) (0 : Nat) none).add (4 : Nat))))) h16 (Value.slice a17 k18 k19) ∧
 ∃ (s20 : ByteArray),
 Reads Try.prog (Instr.loadAt (9 : Nat) (Value.pointer (some ((Addr.mk (Array.size h5) (0 : Nat) none).add (1 : Nat))))) h16 (Value.string s20) ∧
 ∃ (s21 : ByteArray),
 Reads Try.prog (Instr.loadAt (9 : Nat) (Value.pointer (some ((Addr.mk (Array.size h5) (0 : Nat) none).add (2 : Nat))))) h16 (Value.string s21) ∧
 br (decide (IntKind.i64.wrap (n3 + IntKind.i64.wrap (IntKind.i64.wrap ((↑k18 : Int) + (↑s20.size : Int)) + (↑s21.size : Int))) > (32768 : Int)))
 (R (Value.bool true) h16)
 (I0 b2 (IntKind.i64.wrap (n3 + IntKind.i64.wrap (IntKind.i64.wrap ((↑k18 : Int) + (↑s20.size : Int)) + (↑s21.size : Int))))
 (IntKind.i64.wrap (n4 + (1 : Int))) h16 ∧
 I1 b2 (IntKind.i64.wrap (n3 + IntKind.i64.wrap (IntKind.i64.wrap ((↑k18 : Int) + (↑s20.size : Int)) + (↑s21.size : Int))))
 (IntKind.i64.wrap (n4 + (1 : Int))) h16 <
 I1 b2 n3 n4 h5))
 (R (Value.bool (decide ((↑n : Int) > (80 : Int)))) h5)) := by kernel_rfl

theorem vcDo (d m : Nat) (k : Int) (a z : ByteArray) (i : Int) (A : Option Addr) (n c : Nat) (K : Int) (h : Heap) (R : Value → Heap → Prop) :
    vcF Try.prog Try.f29 145 [] [] [.pointer (some ⟨d, 0, none⟩), .pointer (some ⟨m, 0, none⟩), .agg #[.int .i64 k, .string a, .string z, .int .i64 i, .slice A n c, .int .u64 K]] h R =
(∃ (n0 : Int),
 Reads Try.prog (Instr.loadAt (3 : Nat) (Value.pointer (some (Addr.mk (Array.size h) (0 : Nat) none))))
 (Array.push h (Obj.cells (Array.mk [Value.int IntKind.i64 k, Value.string a, Value.string z, Value.int IntKind.i64 i, Value.slice A n c, Value.int IntKind.u64 K]) (54 : Nat)))
 (Value.int IntKind.i64 n0) ∧
 br (n0 == (0 : Int))
 (∃ (I1 : Heap → Prop),
 I1 (Array.push h (Obj.cells (Array.mk [Value.int IntKind.i64 k, Value.string a, Value.string z, Value.int IntKind.i64 i, Value.slice A n c, Value.int IntKind.u64 K]) (54 : Nat))) ∧
 ∃ (s2 : ByteArray),
 Reads Try.prog (Instr.loadAt (9 : Nat) (Value.pointer (some ((Addr.mk (Array.size h) (0 : Nat) none).add (1 : Nat)))))
 (Array.push h (Obj.cells (Array.mk [Value.int IntKind.i64 k, Value.string a, Value.string z, Value.int IntKind.i64 i, Value.slice A n c, Value.int IntKind.u64 K]) (54 : Nat)))
 (Value.string s2) ∧
 ∃ (n3 : Int),
 Reads Try.prog (Instr.loadAt (3 : Nat) (Value.pointer (some ((Addr.mk (Array.size h) (0 : Nat) none).add (3 : Nat)))))
 (Array.push h (Obj.cells (Array.mk [Value.int IntKind.i64 k, Value.string a, Value.string z, Value.int IntKind.i64 i, Value.slice A n c, Value.int IntKind.u64 K]) (54 : Nat)))
 (Value.int IntKind.i64 n3) ∧
 ∃ (a4 : Option Addr),
 ∃ (k5 : Nat),
 ∃ (k6 : Nat),
 Reads Try.prog (Instr.loadAt (22 : Nat) (Value.pointer (some ((Addr.mk (Array.size h) (0 : Nat) none).add (4 : Nat)))))
 (Array.push h
 (Obj.cells (Array.mk [Value.int IntKind.i64 k, Value.string a, Value.string z, Value.int IntKind.i64 i, Value.slice A n c, Value.int IntKind.u64 K]) (54 : Nat)))
 (Value.slice a4 k5 k6) ∧
 HC Try.prog (15 : Nat) (Array.mk [Value.pointer (some (Addr.mk d (0 : Nat) none)), Value.string s2, Value.int IntKind.i64 n3, Value.slice a4 k5 k6])
 (Array.push h
 (Obj.cells (Array.mk [Value.int IntKind.i64 k, Value.string a, Value.string z, Value.int IntKind.i64 i, Value.slice A n c, Value.int IntKind.u64 K]) (54 : Nat)))
 fun (v7 : Value) (h8 : Heap) =>
 ∃ (n9 : Int),
 v7 = Value.int IntKind.i64 n9 ∧
 I1 h8 ∧
 ∃ (s10 : ByteArray),
 (∀ (h11 : Heap),
 I1 h11 → Reads Try.prog (Instr.loadAt (9 : Nat) (Value.pointer (some ((Addr.mk (Array.size h) (0 : Nat) none).add (1 : Nat))))) h11 (Value.string s10)) ∧
 ∃ (n12 : Int),
 (∀ (h13 : Heap),
 I1 h13 →
 Reads Try.prog (Instr.loadAt (3 : Nat) (Value.pointer (some ((Addr.mk (Array.size h) (0 : Nat) none).add (3 : Nat))))) h13 (Value.int IntKind.i64 n12)) ∧
 ∃ (a14 : Option Addr),
 ∃ (k15 : Nat),
 ∃ (k16 : Nat),
 (∀ (h17 : Heap),
 I1 h17 →
 Reads Try.prog (Instr.loadAt (22 : Nat) (Value.pointer (some ((Addr.mk (Array.size h) (0 : Nat) none).add (4 : Nat))))) h17
 (Value.slice a14 k15 k16)) ∧
 ∃ (s18 : ByteArray),
 (∀ (h19 : Heap), I1 h19 → Reads Try.prog (convert (22 : Nat) (9 : Nat) (Value.slice a14 k15 k16)) h19 (Value.string s18)) ∧
 HC Try.prog (63 : Nat) (Array.mk [Value.pointer (some (Addr.mk m (0 : Nat) none)), Value.string s10, Value.int IntKind.i64 n12, Value.string s18])
 h8 fun (v20 : Value) (h21 : Heap) => ∃ (n22 : Int), v20 = Value.int IntKind.i64 n22 ∧ R (Value.bool (n9 == n22)) h21)
 (br (n0 == (1 : Int))
 (∃ (s23 : ByteArray),
 Reads Try.prog (Instr.loadAt (9 : Nat) (Value.pointer (some ((Addr.mk (Array.size h) (0 : Nat) none).add (1 : Nat)))))
 (Array.push h (Obj.cells (Array.mk [Value.int IntKind.i64 k, Value.string a, Value.string z, Value.int IntKind.i64 i, Value.slice A n c, Value.int IntKind.u64 K]) (54 : Nat)))
 (Value.string s23) ∧
 ∃ (n24 : Int),
 Reads Try.prog (Instr.loadAt (3 : Nat) (Value.pointer (some ((Addr.mk (Array.size h) (0 : Nat) none).add (3 : Nat)))))
 (Array.push h (Obj.cells (Array.mk [Value.int IntKind.i64 k, Value.string a, Value.string z, Value.int IntKind.i64 i, Value.slice A n c, Value.int IntKind.u64 K]) (54 : Nat)))
 (Value.int IntKind.i64 n24) ∧
 HC Try.prog (16 : Nat) (Array.mk [Value.pointer (some (Addr.mk d (0 : Nat) none)), Value.string s23, Value.int IntKind.i64 n24])
 (Array.push h (Obj.cells (Array.mk [Value.int IntKind.i64 k, Value.string a, Value.string z, Value.int IntKind.i64 i, Value.slice A n c, Value.int IntKind.u64 K]) (54 : Nat)))
 fun (v25 : Value) (h26 : Heap) =>
 ∃ (a27 : Option Addr),
 ∃ (k28 : Nat),
 ∃ (k29 : Nat),
 ∃ (n30 : Int),
 v25 = Value.tuple (Array.mk [Value.slice a27 k28 k29, Value.int IntKind.i64 n30]) ∧
 ∃ (s31 : ByteArray),
 Reads Try.prog (Instr.loadAt (9 : Nat) (Value.pointer (some ((Addr.mk (Array.size h) (0 : Nat) none).add (1 : Nat))))) h26 (Value.string s31) ∧
 ∃ (n32 : Int),
 Reads Try.prog (Instr.loadAt (3 : Nat) (Value.pointer (some ((Addr.mk (Array.size h) (0 : Nat) none).add (3 : Nat))))) h26 (Value.int IntKind.i64 n32) ∧
 HC Try.prog (64 : Nat) (Array.mk [Value.pointer (some (Addr.mk m (0 : Nat) none)), Value.string s31, Value.int IntKind.i64 n32]) h26
 fun (v33 : Value) (h34 : Heap) =>
 ∃ (s35 : ByteArray),
 ∃ (n36 : Int),
 v33 = Value.tuple (Array.mk [Value.string s35, Value.int IntKind.i64 n36]) ∧
 ∃ (s37 : ByteArray),
 Reads Try.prog (convert (22 : Nat) (9 : Nat) (Value.slice a27 k28 k29)) h34 (Value.string s37) ∧
 R (Value.bool (s37.toList == s35.toList && n30 == n36)) h34)
 (br (n0 == (2 : Int))
 (∃ (I38 : Heap → Prop),
 I38 (Array.push h (Obj.cells (Array.mk [Value.int IntKind.i64 k, Value.string a, Value.string z, Value.int IntKind.i64 i, Value.slice A n c, Value.int IntKind.u64 K]) (54 : Nat))) ∧
 ∃ (s39 : ByteArray),
 Reads Try.prog (Instr.loadAt (9 : Nat) (Value.pointer (some ((Addr.mk (Array.size h) (0 : Nat) none).add (1 : Nat)))))
 (Array.push h (Obj.cells (Array.mk [Value.int IntKind.i64 k, Value.string a, Value.string z, Value.int IntKind.i64 i, Value.slice A n c, Value.int IntKind.u64 K]) (54 : Nat)))
 (Value.string s39) ∧
 HC Try.prog (17 : Nat) (Array.mk [Value.pointer (some (Addr.mk d (0 : Nat) none)), Value.string s39])
 (Array.push h (Obj.cells (Array.mk [Value.int IntKind.i64 k, Value.string a, Value.string z, Value.int IntKind.i64 i, Value.slice A n c, Value.int IntKind.u64 K]) (54 : Nat)))
 fun (v40 : Value) (h41 : Heap) =>
 ∃ (n42 : Int),
 v40 = Value.int IntKind.i64 n42 ∧
 I38 h41 ∧
 ∃ (s43 : ByteArray),
 (∀ (h44 : Heap), I38 h44 → Reads Try.prog (Instr.loadAt (9 : Nat) (Value.pointer (some ((Addr.mk (Array.size h) (0 : Nat) none).add (1 : Nat))))) h44 (Value.string s43)) ∧
 HC Try.prog (65 : Nat) (Array.mk [Value.pointer (some (Addr.mk m (0 : Nat) none)), Value.string s43]) h41 fun (v45 : Value) (h46 : Heap) =>
 ∃ (n47 : Int), v45 = Value.int IntKind.i64 n47 ∧ R (Value.bool (n42 == n47)) h46)
 (br (n0 == (3 : Int))
 (∃ (I48 : Heap → Prop),
 I48 (Array.push h (Obj.cells (Array.mk [Value.int IntKind.i64 k, Value.string a, Value.string z, Value.int IntKind.i64 i, Value.slice A n c, Value.int IntKind.u64 K]) (54 : Nat))) ∧
 ∃ (s49 : ByteArray),
 Reads Try.prog (Instr.loadAt (9 : Nat) (Value.pointer (some ((Addr.mk (Array.size h) (0 : Nat) none).add (1 : Nat)))))
 (Array.push h (Obj.cells (Array.mk [Value.int IntKind.i64 k, Value.string a, Value.string z, Value.int IntKind.i64 i, Value.slice A n c, Value.int IntKind.u64 K]) (54 : Nat)))
 (Value.string s49) ∧
 ∃ (n50 : Int),
 Reads Try.prog (Instr.loadAt (3 : Nat) (Value.pointer (some ((Addr.mk (Array.size h) (0 : Nat) none).add (3 : Nat)))))
 (Array.push h
 (Obj.cells (Array.mk [Value.int IntKind.i64 k, Value.string a, Value.string z, Value.int IntKind.i64 i, Value.slice A n c, Value.int IntKind.u64 K]) (54 : Nat)))
 (Value.int IntKind.i64 n50) ∧
 HC Try.prog (24 : Nat) (Array.mk [Value.pointer (some (Addr.mk d (0 : Nat) none)), Value.string s49, Value.int IntKind.i64 n50])
 (Array.push h
 (Obj.cells (Array.mk [Value.int IntKind.i64 k, Value.string a, Value.string z, Value.int IntKind.i64 i, Value.slice A n c, Value.int IntKind.u64 K]) (54 : Nat)))
 fun (v51 : Value) (h52 : Heap) =>
 ∃ (n53 : Int),
 v51 = Value.int IntKind.i64 n53 ∧
 I48 h52 ∧
 ∃ (s54 : ByteArray),
 (∀ (h55 : Heap),
 I48 h55 → Reads Try.prog (Instr.loadAt (9 : Nat) (Value.pointer (some ((Addr.mk (Array.size h) (0 : Nat) none).add (1 : Nat))))) h55 (Value.string s54)) ∧
 ∃ (n56 : Int),
 (∀ (h57 : Heap),
 I48 h57 →
 Reads Try.prog (Instr.loadAt (3 : Nat) (Value.pointer (some ((Addr.mk (Array.size h) (0 : Nat) none).add (3 : Nat))))) h57 (Value.int IntKind.i64 n56)) ∧
 HC Try.prog (66 : Nat) (Array.mk [Value.pointer (some (Addr.mk m (0 : Nat) none)), Value.string s54, Value.int IntKind.i64 n56]) h52
 fun (v58 : Value) (h59 : Heap) => ∃ (n60 : Int), v58 = Value.int IntKind.i64 n60 ∧ R (Value.bool (n53 == n60)) h59)
 (br (n0 == (4 : Int))
 (∃ (I61 : Heap → Prop),
 I61 (Array.push h (Obj.cells (Array.mk [Value.int IntKind.i64 k, Value.string a, Value.string z, Value.int IntKind.i64 i, Value.slice A n c, Value.int IntKind.u64 K]) (54 : Nat))) ∧
 ∃ (s62 : ByteArray),
 Reads Try.prog (Instr.loadAt (9 : Nat) (Value.pointer (some ((Addr.mk (Array.size h) (0 : Nat) none).add (1 : Nat)))))
 (Array.push h (Obj.cells (Array.mk [Value.int IntKind.i64 k, Value.string a, Value.string z, Value.int IntKind.i64 i, Value.slice A n c, Value.int IntKind.u64 K]) (54 : Nat)))
 (Value.string s62) ∧
 ∃ (s63 : ByteArray),
 Reads Try.prog (Instr.loadAt (9 : Nat) (Value.pointer (some ((Addr.mk (Array.size h) (0 : Nat) none).add (2 : Nat)))))
 (Array.push h
 (Obj.cells (Array.mk [Value.int IntKind.i64 k, Value.string a, Value.string z, Value.int IntKind.i64 i, Value.slice A n c, Value.int IntKind.u64 K]) (54 : Nat)))
 (Value.string s63) ∧
 HC Try.prog (26 : Nat) (Array.mk [Value.pointer (some (Addr.mk d (0 : Nat) none)), Value.string s62, Value.string s63])
 (Array.push h
 (Obj.cells (Array.mk [Value.int IntKind.i64 k, Value.string a, Value.string z, Value.int IntKind.i64 i, Value.slice A n c, Value.int IntKind.u64 K]) (54 : Nat)))
 fun (v64 : Value) (h65 : Heap) =>
 ∃ (n66 : Int),
 v64 = Value.int IntKind.i64 n66 ∧
 I61 h65 ∧
 ∃ (s67 : ByteArray),
 (∀ (h68 : Heap),
 I61 h68 → Reads Try.prog (Instr.loadAt (9 : Nat) (Value.pointer (some ((Addr.mk (Array.size h) (0 : Nat) none).add (1 : Nat))))) h68 (Value.string s67)) ∧
 ∃ (s69 : ByteArray),
 (∀ (h70 : Heap),
 I61 h70 → Reads Try.prog (Instr.loadAt (9 : Nat) (Value.pointer (some ((Addr.mk (Array.size h) (0 : Nat) none).add (2 : Nat))))) h70 (Value.string s69)) ∧
 HC Try.prog (67 : Nat) (Array.mk [Value.pointer (some (Addr.mk m (0 : Nat) none)), Value.string s67, Value.string s69]) h65 fun (v71 : Value) (h72 : Heap) =>
 ∃ (n73 : Int), v71 = Value.int IntKind.i64 n73 ∧ R (Value.bool (n66 == n73)) h72)
 (br (n0 == (5 : Int))
 (∃ (I74 : Heap → Prop),
 I74 (Array.push h (Obj.cells (Array.mk [Value.int IntKind.i64 k, Value.string a, Value.string z, Value.int IntKind.i64 i, Value.slice A n c, Value.int IntKind.u64 K]) (54 : Nat))) ∧
 ∃ (s75 : ByteArray),
 Reads Try.prog (Instr.loadAt (9 : Nat) (Value.pointer (some ((Addr.mk (Array.size h) (0 : Nat) none).add (1 : Nat)))))
 (Array.push h
 (Obj.cells (Array.mk [Value.int IntKind.i64 k, Value.string a, Value.string z, Value.int IntKind.i64 i, Value.slice A n c, Value.int IntKind.u64 K]) (54 : Nat)))
 (Value.string s75) ∧
 HC Try.prog (25 : Nat) (Array.mk [Value.pointer (some (Addr.mk d (0 : Nat) none)), Value.string s75])
 (Array.push h
 (Obj.cells (Array.mk [Value.int IntKind.i64 k, Value.string a, Value.string z, Value.int IntKind.i64 i, Value.slice A n c, Value.int IntKind.u64 K]) (54 : Nat)))
 fun (v76 : Value) (h77 : Heap) =>
 ∃ (n78 : Int),
 v76 = Value.int IntKind.i64 n78 ∧
 I74 h77 ∧
 ∃ (s79 : ByteArray),
 (∀ (h80 : Heap),
 I74 h80 → Reads Try.prog (Instr.loadAt (9 : Nat) (Value.pointer (some ((Addr.mk (Array.size h) (0 : Nat) none).add (1 : Nat))))) h80 (Value.string s79)) ∧
 HC Try.prog (68 : Nat) (Array.mk [Value.pointer (some (Addr.mk m (0 : Nat) none)), Value.string s79]) h77 fun (v81 : Value) (h82 : Heap) =>
 ∃ (n83 : Int), v81 = Value.int IntKind.i64 n83 ∧ R (Value.bool (n78 == n83)) h82)
 (br (n0 == (6 : Int))
 (∃ (n84 : Int),
 Reads Try.prog (Instr.loadAt (34 : Nat) (Value.pointer (some ((Addr.mk (Array.size h) (0 : Nat) none).add (5 : Nat)))))
 (Array.push h (Obj.cells (Array.mk [Value.int IntKind.i64 k, Value.string a, Value.string z, Value.int IntKind.i64 i, Value.slice A n c, Value.int IntKind.u64 K]) (54 : Nat)))
 (Value.int IntKind.u64 n84) ∧
 HC Try.prog (19 : Nat) (Array.mk [Value.pointer (some (Addr.mk d (0 : Nat) none)), Value.int IntKind.u64 n84])
 (Array.push h (Obj.cells (Array.mk [Value.int IntKind.i64 k, Value.string a, Value.string z, Value.int IntKind.i64 i, Value.slice A n c, Value.int IntKind.u64 K]) (54 : Nat)))
 fun (v85 : Value) (h86 : Heap) =>
 v85 = Value.tuple (Array.mk []) ∧
 ∃ (n87 : Int),
 Reads Try.prog (Instr.loadAt (34 : Nat) (Value.pointer (some ((Addr.mk (Array.size h) (0 : Nat) none).add (5 : Nat))))) h86 (Value.int IntKind.u64 n87) ∧
 HC Try.prog (69 : Nat) (Array.mk [Value.pointer (some (Addr.mk m (0 : Nat) none)), Value.int IntKind.u64 n87]) h86 fun (v88 : Value) (h89 : Heap) =>
 v88 = Value.tuple (Array.mk []) ∧ R (Value.bool true) h89)
 (br (n0 == (7 : Int))
 (HC Try.prog (20 : Nat) (Array.mk [Value.pointer (some (Addr.mk d (0 : Nat) none))])
 (Array.push h (Obj.cells (Array.mk [Value.int IntKind.i64 k, Value.string a, Value.string z, Value.int IntKind.i64 i, Value.slice A n c, Value.int IntKind.u64 K]) (54 : Nat)))
 fun (v90 : Value) (h91 : Heap) =>
 v90 = Value.tuple (Array.mk []) ∧
 ∃ (p92 : Addr),
 some (Addr.mk m (0 : Nat) none) = some p92 ∧
 SVC Try.prog (Instr.storeAt (4 : Nat) (Value.pointer (some (p92.add (4 : Nat)))) (Value.bool false)) h91 fun (x93 : Unit) (h94 : Heap) => R (Value.bool true) h94)
 (br (n0 == (8 : Int))
 (∃ (n95 : Int),
 Reads Try.prog (Instr.loadAt (3 : Nat) (Value.pointer (some ((Addr.mk (Array.size h) (0 : Nat) none).add (3 : Nat)))))
 (Array.push h
 (Obj.cells (Array.mk [Value.int IntKind.i64 k, Value.string a, Value.string z, Value.int IntKind.i64 i, Value.slice A n c, Value.int IntKind.u64 K]) (54 : Nat)))
 (Value.int IntKind.i64 n95) ∧
 ∃ (n96 : Int),
 Reads Try.prog (Instr.loadAt (34 : Nat) (Value.pointer (some ((Addr.mk (Array.size h) (0 : Nat) none).add (5 : Nat)))))
 (Array.push h
 (Obj.cells (Array.mk [Value.int IntKind.i64 k, Value.string a, Value.string z, Value.int IntKind.i64 i, Value.slice A n c, Value.int IntKind.u64 K]) (54 : Nat)))
 (Value.int IntKind.u64 n96) ∧
 HC Try.prog (18 : Nat) (Array.mk [Value.pointer (some (Addr.mk d (0 : Nat) none)), Value.int IntKind.i64 n95, Value.int IntKind.u64 n96])
 (Array.push h
 (Obj.cells (Array.mk [Value.int IntKind.i64 k, Value.string a, Value.string z, Value.int IntKind.i64 i, Value.slice A n c, Value.int IntKind.u64 K]) (54 : Nat)))
 fun (v97 : Value) (h98 : Heap) =>
 v97 = Value.tuple (Array.mk []) ∧
 ∃ (n99 : Int),
 Reads Try.prog (Instr.loadAt (3 : Nat) (Value.pointer (some ((Addr.mk (Array.size h) (0 : Nat) none).add (3 : Nat))))) h98 (Value.int IntKind.i64 n99) ∧
 ∃ (n100 : Int),
 Reads Try.prog (Instr.loadAt (34 : Nat) (Value.pointer (some ((Addr.mk (Array.size h) (0 : Nat) none).add (5 : Nat))))) h98 (Value.int IntKind.u64 n100) ∧
 HC Try.prog (70 : Nat) (Array.mk [Value.pointer (some (Addr.mk m (0 : Nat) none)), Value.int IntKind.i64 n99, Value.int IntKind.u64 n100]) h98
 fun (v101 : Value) (h102 : Heap) => v101 = Value.tuple (Array.mk []) ∧ R (Value.bool true) h102)
 (R (Value.bool true)
 (Array.push h
 (Obj.cells (Array.mk [Value.int IntKind.i64 k, Value.string a, Value.string z, Value.int IntKind.i64 i, Value.slice A n c, Value.int IntKind.u64 K]) (54 : Nat))))))))))))) := by kernel_rfl

theorem vcSameD (d m : Nat) (h : Heap) (R : Value → Heap → Prop) :
    vcF Try.prog Try.f34 74 [] [] [.pointer (some ⟨d, 0, none⟩), .pointer (some ⟨m, 0, none⟩)] h R =
(∃ (I0 : Heap → Prop),
 I0 h ∧
 HC Try.prog (33 : Nat) (Array.mk [Value.pointer (some (Addr.mk d (0 : Nat) none))]) h fun (v1 : Value) (h2 : Heap) =>
 ∃ (a3 : Option Addr),
 ∃ (k4 : Nat),
 ∃ (k5 : Nat),
 v1 = Value.slice a3 k4 k5 ∧
 I0 h2 ∧
 HC Try.prog (73 : Nat) (Array.mk [Value.pointer (some (Addr.mk m (0 : Nat) none))]) h2 fun (v6 : Value) (h7 : Heap) =>
 ∃ (a8 : Option Addr),
 ∃ (k9 : Nat),
 ∃ (k10 : Nat),
 v6 = Value.slice a8 k9 k10 ∧
 I0 h7 ∧
 HC Try.prog (32 : Nat) (Array.mk [Value.slice a3 k4 k5, Value.slice a8 k9 k10]) h7 fun (v11 : Value) (h12 : Heap) =>
 ∃ (b13 : Bool),
 v11 = Value.bool b13 ∧
 I0 h12 ∧
 br (bif bif b13 then false else true then false else true)
 (HC Try.prog (30 : Nat) (Array.mk [Value.pointer (some (Addr.mk d (0 : Nat) none))]) h12 fun (v14 : Value) (h15 : Heap) =>
 ∃ (n16 : Int),
 v14 = Value.int IntKind.i64 n16 ∧
 I0 h15 ∧
 ∃ (p17 : Addr),
 (true = true → some (Addr.mk m (0 : Nat) none) = some p17) ∧
 ∃ (n18 : Int),
 (true = true →
 ∀ (h19 : Heap), I0 h19 → Reads Try.prog (Instr.loadAt (3 : Nat) (Value.pointer (some (p17.add (5 : Nat))))) h19 (Value.int IntKind.i64 n18)) ∧
 br (bif bif n16 == n18 then false else true then false else true)
 (HC Try.prog (31 : Nat) (Array.mk [Value.pointer (some (Addr.mk d (0 : Nat) none))]) h15 fun (v20 : Value) (h21 : Heap) =>
 ∃ (b22 : Bool),
 v20 = Value.bool b22 ∧
 I0 h21 ∧
 ∃ (p23 : Addr),
 (true = true → some (Addr.mk m (0 : Nat) none) = some p23) ∧
 ∃ (b24 : Bool),
 (true = true →
 ∀ (h25 : Heap),
 I0 h25 → Reads Try.prog (Instr.loadAt (4 : Nat) (Value.pointer (some (p23.add (4 : Nat))))) h25 (Value.bool b24)) ∧
 ∃ (b26 : Bool),
 (true = true →
 Reads Try.prog
 (eqSem BinOp.neq (4 : Nat) (Operand.tmp (25 : Nat)) (Operand.tmp (29 : Nat)) (Value.bool b22) (Value.bool b24)) h21
 (Value.bool b26)) ∧
 br (bif b26 then false else true)
 (HC Try.prog (22 : Nat) (Array.mk [Value.pointer (some (Addr.mk d (0 : Nat) none))]) h21 fun (v27 : Value) (h28 : Heap) =>
 ∃ (n29 : Int),
 v27 = Value.int IntKind.i64 n29 ∧
 HC Try.prog (74 : Nat) (Array.mk [Value.pointer (some (Addr.mk m (0 : Nat) none))]) h28
 fun (v30 : Value) (h31 : Heap) =>
 ∃ (n32 : Int),
 v30 = Value.int IntKind.i64 n32 ∧
 br (n29 != n32) (R (Value.bool false) h31)
 (∃ (p33 : Addr),
 some (Addr.mk m (0 : Nat) none) = some p33 ∧
 ∃ (a34 : Option Addr),
 ∃ (k35 : Nat),
 ∃ (k36 : Nat),
 Reads Try.prog (Instr.loadAt (60 : Nat) (Value.pointer (some p33))) h31
 (Value.slice a34 k35 k36) ∧
 ∃ (I37 : Bool → Int → Heap → Prop),
 ∃ (I38 : Bool → Int → Heap → Nat),
 I37 false (0 : Int) h31 ∧
 ∀ (b39 : Bool) (n40 : Int) (h41 : Heap),
 I37 b39 n40 h41 →
 br (decide (n40 < (↑k35 : Int)))
 (∃ (p42 : Addr),
 (a34 = some p42 ∧ (0 : Int) ≤ n40 ∧ n40 < (↑k35 : Int)) ∧
 ∃ (s43 : ByteArray),
 ∃ (a44 : Option Addr),
 ∃ (k45 : Nat),
 ∃ (k46 : Nat),
 Reads Try.prog
 (Instr.loadAt (65 : Nat)
 (Value.pointer (some (p42.add (n40.toNat * (2 : Nat))))))
 h41
 (Value.agg (Array.mk [Value.string s43, Value.slice a44 k45 k46])) ∧
 SVC Try.prog
 (Instr.storeAt (65 : Nat)
 (Value.pointer (some (Addr.mk (Array.size h41) (0 : Nat) none)))
 (Value.agg
 (Array.mk [Value.string s43, Value.slice a44 k45 k46])))
 (Array.push h41
 (Obj.cells
 (Array.mk
 [Value.string (ByteArray.mk (Array.mk [])),
 Value.slice none (0 : Nat) (0 : Nat)])
 (65 : Nat)))
 fun (x47 : Unit) (h48 : Heap) =>
 ∃ (a49 : Option Addr),
 ∃ (k50 : Nat),
 ∃ (k51 : Nat),
 Reads Try.prog
 (Instr.loadAt (37 : Nat)
 (Value.pointer
 (some
 ((Addr.mk (Array.size h41) (0 : Nat) none).add
 (1 : Nat)))))
 h48 (Value.slice a49 k50 k51) ∧
 ∃ (p52 : Addr),
 some (Addr.mk m (0 : Nat) none) = some p52 ∧
 ∃ (b53 : Bool),
 Reads Try.prog
 (Instr.loadAt (4 : Nat)
 (Value.pointer (some (p52.add (4 : Nat)))))
 h48 (Value.bool b53) ∧
 br b53
 (∃ (I54 : Heap → Prop),
 I54 h48 ∧
 ∃ (s55 : ByteArray),
 Reads Try.prog
 (Instr.loadAt (9 : Nat)
 (Value.pointer
 (some
 (Addr.mk (Array.size h41)
 (0 : Nat) none))))
 h48 (Value.string s55) ∧
 HC Try.prog (21 : Nat)
 (Array.mk
 [Value.pointer
 (some (Addr.mk d (0 : Nat) none)),
 Value.string s55])
 h48 fun (v56 : Value) (h57 : Heap) =>
 ∃ (n58 : Int),
 v56 = Value.int IntKind.i64 n58 ∧
 I54 h57 ∧
 ∃ (s59 : ByteArray),
 ((!n58 != (0 : Int)) = true →
 Reads Try.prog
 (Instr.loadAt (9 : Nat)
 (Value.pointer
 (some
 (Addr.mk
 (Array.size h41)
 (0 : Nat) none))))
 h57 (Value.string s59)) ∧
 br
 (bif
 bif
 n58 ==
 (0 : Int) then
 false
 else true then
 false
 else true)
 (HC Try.prog (23 : Nat)
 (Array.mk
 [Value.pointer
 (some
 (Addr.mk d
 (0 : Nat)
 none)),
 Value.string s59])
 h57
 fun (v60 : Value)
 (h61 : Heap) =>
 ∃ (b62 : Bool),
 v60 = Value.bool b62 ∧
 I54 h61 ∧
 ∃ (p63 : Addr),
 (true = true →
 some
 (Addr.mk m
 (0 :
 Nat)
 none) =
 some p63) ∧
 ∃ (b64 : Bool),
 (true = true →
 ∀
 (h65 :
 Heap),
 I54
 h65 →
 Reads
 Try.prog
 (Instr.loadAt
 (4 :
 Nat)
 (Value.pointer
 (some
 (p63.add
 (4 :
 Nat)))))
 h65
 (Value.bool
 b64)) ∧
 ∃ (b66 :
 Bool),
 (true =
 true →
 Reads
 Try.prog
 (eqSem
 BinOp.neq
 (4 :
 Nat)
 (Operand.tmp
 (65 :
 Nat))
 (Operand.tmp
 (70 :
 Nat))
 (Value.bool
 b62)
 (Value.bool
 !b64))
 h61
 (Value.bool
 b66)) ∧
 br b66
 (R
 (Value.bool
 false)
 h61)
 (I37
 b39
 (IntKind.i64.wrap
 (n40 +
 (1 :
 Int)))
 h61 ∧
 I38
 b39
 (IntKind.i64.wrap
 (n40 +
 (1 :
 Int)))
 h61 <
 I38
 b39
 n40
 h41))
 (R (Value.bool false) h57))
 (∃ (I67 : Heap → Prop),
 I67 h48 ∧
 ∃ (s68 : ByteArray),
 Reads Try.prog
 (Instr.loadAt (9 : Nat)
 (Value.pointer
 (some
 (Addr.mk (Array.size h41)
 (0 : Nat) none))))
 h48 (Value.string s68) ∧
 HC Try.prog (21 : Nat)
 (Array.mk
 [Value.pointer
 (some (Addr.mk d (0 : Nat) none)),
 Value.string s68])
 h48 fun (v69 : Value) (h70 : Heap) =>
 ∃ (n71 : Int),
 v69 = Value.int IntKind.i64 n71 ∧
 I67 h70 ∧
 ∃ (s72 : ByteArray),
 ((!n71 != (↑k50 : Int)) = true →
 Reads Try.prog
 (Instr.loadAt (9 : Nat)
 (Value.pointer
 (some
 (Addr.mk
 (Array.size h41)
 (0 : Nat) none))))
 h70 (Value.string s72)) ∧
 br
 (bif
 bif
 n71 ==
 (↑k50 : Int) then
 false
 else true then
 false
 else true)
 (HC Try.prog (23 : Nat)
 (Array.mk
 [Value.pointer
 (some
 (Addr.mk d
 (0 : Nat)
 none)),
 Value.string s72])
 h70
 fun (v73 : Value)
 (h74 : Heap) =>
 ∃ (b75 : Bool),
 v73 = Value.bool b75 ∧
 I67 h74 ∧
 ∃ (p76 : Addr),
 (true = true →
 some
 (Addr.mk m
 (0 :
 Nat)
 none) =
 some p76) ∧
 ∃ (b77 : Bool),
 (true = true →
 ∀
 (h78 :
 Heap),
 I67
 h78 →
 Reads
 Try.prog
 (Instr.loadAt
 (4 :
 Nat)
 (Value.pointer
 (some
 (p76.add
 (4 :
 Nat)))))
 h78
 (Value.bool
 b77)) ∧
 ∃ (b79 :
 Bool),
 (true =
 true →
 Reads
 Try.prog
 (eqSem
 BinOp.neq
 (4 :
 Nat)
 (Operand.tmp
 (65 :
 Nat))
 (Operand.tmp
 (70 :
 Nat))
 (Value.bool
 b75)
 (Value.bool
 !b77))
 h74
 (Value.bool
 b79)) ∧
 br b79
 (R
 (Value.bool
 false)
 h74)
 (I37
 b39
 (IntKind.i64.wrap
 (n40 +
 (1 :
 Int)))
 h74 ∧
 I38
 b39
 (IntKind.i64.wrap
 (n40 +
 (1 :
 Int)))
 h74 <
 I38
 b39
 n40
 h41))
 (R (Value.bool false) h70)))
 (R (Value.bool true) h41)))
 (R (Value.bool false) h21))
 (R (Value.bool false) h15))
 (R (Value.bool false) h12)) := by kernel_rfl

theorem vcDoesL (r : Int) (A : Option Addr) (n c : Nat) (h : Heap) (R : Value → Heap → Prop) :
    vcF Try.prog Try.f9 153 [] [] [.int .i64 r, .slice A n c] h R =
(HC Try.prog (13 : Nat) (Array.mk []) h fun (v0 : Value) (h1 : Heap) =>
 ∃ (b2 : Bool),
 v0 = Value.bool b2 ∧
 br (!b2) (R (Value.bool false) h1)
 (HC Try.prog (27 : Nat) (Array.mk [Value.slice A n c]) h1 fun (v3 : Value) (h4 : Heap) =>
 ∃ (b5 : Bool),
 v3 = Value.bool b5 ∧
 br b5 (R (Value.bool true) h4)
 (HC Try.prog (14 : Nat) (Array.mk [Value.int IntKind.i64 r]) h4 fun (v6 : Value) (h7 : Heap) =>
 ∃ (a8 : Option Addr),
 v6 = Value.pointer a8 ∧
 HC Try.prog (28 : Nat) (Array.mk [Value.int IntKind.i64 r]) h7 fun (v9 : Value) (h10 : Heap) =>
 ∃ (a11 : Option Addr),
 v9 = Value.pointer a11 ∧
 ∃ (I12 : Bool → Int → Heap → Prop),
 ∃ (I13 : Bool → Int → Heap → Nat),
 I12 false (0 : Int) h10 ∧
 ∀ (b14 : Bool) (n15 : Int) (h16 : Heap),
 I12 b14 n15 h16 →
 br (decide (n15 < (↑n : Int)))
 (∃ (p17 : Addr),
 (A = some p17 ∧ (0 : Int) ≤ n15 ∧ n15 < (↑n : Int)) ∧
 ∃ (n18 : Int),
 ∃ (s19 : ByteArray),
 ∃ (s20 : ByteArray),
 ∃ (n21 : Int),
 ∃ (a22 : Option Addr),
 ∃ (k23 : Nat),
 ∃ (k24 : Nat),
 ∃ (n25 : Int),
 Reads Try.prog (Instr.loadAt (54 : Nat) (Value.pointer (some (p17.add (n15.toNat * (6 : Nat)))))) h16
 (Value.agg
 (Array.mk
 [Value.int IntKind.i64 n18, Value.string s19, Value.string s20, Value.int IntKind.i64 n21, Value.slice a22 k23 k24,
 Value.int IntKind.u64 n25])) ∧
 SVC Try.prog
 (Instr.storeAt (54 : Nat) (Value.pointer (some (Addr.mk (Array.size h16) (0 : Nat) none)))
 (Value.agg
 (Array.mk
 [Value.int IntKind.i64 n18, Value.string s19, Value.string s20, Value.int IntKind.i64 n21, Value.slice a22 k23 k24,
 Value.int IntKind.u64 n25])))
 (Array.push h16
 (Obj.cells
 (Array.mk
 [Value.int IntKind.i64 (0 : Int), Value.string (ByteArray.mk (Array.mk [])), Value.string (ByteArray.mk (Array.mk [])),
 Value.int IntKind.i64 (0 : Int), Value.slice none (0 : Nat) (0 : Nat), Value.int IntKind.u64 (0 : Int)])
 (54 : Nat)))
 fun (x26 : Unit) (h27 : Heap) =>
 ∃ (n28 : Int),
 ∃ (s29 : ByteArray),
 ∃ (s30 : ByteArray),
 ∃ (n31 : Int),
 ∃ (a32 : Option Addr),
 ∃ (k33 : Nat),
 ∃ (k34 : Nat),
 ∃ (n35 : Int),
 Reads Try.prog (Instr.loadAt (54 : Nat) (Value.pointer (some (Addr.mk (Array.size h16) (0 : Nat) none)))) h27
 (Value.agg
 (Array.mk
 [Value.int IntKind.i64 n28, Value.string s29, Value.string s30, Value.int IntKind.i64 n31,
 Value.slice a32 k33 k34, Value.int IntKind.u64 n35])) ∧
 HC Try.prog (29 : Nat)
 (Array.mk
 [Value.pointer a8, Value.pointer a11,
 Value.agg
 (Array.mk
 [Value.int IntKind.i64 n28, Value.string s29, Value.string s30, Value.int IntKind.i64 n31,
 Value.slice a32 k33 k34, Value.int IntKind.u64 n35])])
 h27 fun (v36 : Value) (h37 : Heap) =>
 ∃ (b38 : Bool),
 v36 = Value.bool b38 ∧
 br (bif bif b38 then false else true then false else true)
 (HC Try.prog (34 : Nat) (Array.mk [Value.pointer a8, Value.pointer a11]) h37 fun (v39 : Value) (h40 : Heap) =>
 ∃ (b41 : Bool),
 v39 = Value.bool b41 ∧
 br (!b41) (R (Value.bool false) h40)
 (I12 b14 (IntKind.i64.wrap (n15 + (1 : Int))) h40 ∧
 I13 b14 (IntKind.i64.wrap (n15 + (1 : Int))) h40 < I13 b14 n15 h16))
 (R (Value.bool false) h37))
 (HC Try.prog (20 : Nat) (Array.mk [Value.pointer a8]) h16 fun (v42 : Value) (h43 : Heap) =>
 v42 = Value.tuple (Array.mk []) ∧
 ∃ (p44 : Addr),
 a11 = some p44 ∧
 SVC Try.prog (Instr.storeAt (4 : Nat) (Value.pointer (some (p44.add (4 : Nat)))) (Value.bool false)) h43 fun (x45 : Unit) (h46 : Heap) =>
 ∃ (p47 : Addr),
 a11 = some p47 ∧
 ∃ (a48 : Option Addr),
 ∃ (k49 : Nat),
 ∃ (k50 : Nat),
 Reads Try.prog (Instr.loadAt (60 : Nat) (Value.pointer (some p47))) h46 (Value.slice a48 k49 k50) ∧
 ∃ (I51 : Bool → Int → Heap → Prop),
 ∃ (I52 : Bool → Int → Heap → Nat),
 I51 b14 (0 : Int) h46 ∧
 ∀ (b53 : Bool) (n54 : Int) (h55 : Heap),
 I51 b53 n54 h55 →
 br (decide (n54 < (↑k49 : Int)))
 (∃ (p56 : Addr),
 (a48 = some p56 ∧ (0 : Int) ≤ n54 ∧ n54 < (↑k49 : Int)) ∧
 ∃ (s57 : ByteArray),
 ∃ (a58 : Option Addr),
 ∃ (k59 : Nat),
 ∃ (k60 : Nat),
 Reads Try.prog (Instr.loadAt (65 : Nat) (Value.pointer (some (p56.add (n54.toNat * (2 : Nat)))))) h55
 (Value.agg (Array.mk [Value.string s57, Value.slice a58 k59 k60])) ∧
 SVC Try.prog
 (Instr.storeAt (65 : Nat) (Value.pointer (some (Addr.mk (Array.size h55) (0 : Nat) none)))
 (Value.agg (Array.mk [Value.string s57, Value.slice a58 k59 k60])))
 (Array.push h55
 (Obj.cells (Array.mk [Value.string (ByteArray.mk (Array.mk [])), Value.slice none (0 : Nat) (0 : Nat)])
 (65 : Nat)))
 fun (x61 : Unit) (h62 : Heap) =>
 ∃ (a63 : Option Addr),
 ∃ (k64 : Nat),
 ∃ (k65 : Nat),
 Reads Try.prog
 (Instr.loadAt (37 : Nat)
 (Value.pointer (some ((Addr.mk (Array.size h55) (0 : Nat) none).add (1 : Nat)))))
 h62 (Value.slice a63 k64 k65) ∧
 ∃ (I66 : Bool → Int → Heap → Prop),
 ∃ (I67 : Bool → Int → Heap → Nat),
 I66 b53 (0 : Int) h62 ∧
 ∀ (b68 : Bool) (n69 : Int) (h70 : Heap),
 I66 b68 n69 h70 →
 br (decide (n69 < (↑k64 : Int)))
 (∃ (p71 : Addr),
 (a63 = some p71 ∧ (0 : Int) ≤ n69 ∧ n69 < (↑k64 : Int)) ∧
 ∃ (s72 : ByteArray),
 Reads Try.prog
 (Instr.loadAt (9 : Nat)
 (Value.pointer (some (p71.add (n69.toNat * (1 : Nat))))))
 h70 (Value.string s72) ∧
 ∃ (s73 : ByteArray),
 Reads Try.prog
 (Instr.loadAt (9 : Nat)
 (Value.pointer (some (Addr.mk (Array.size h55) (0 : Nat) none))))
 h70 (Value.string s73) ∧
 HC Try.prog (16 : Nat)
 (Array.mk [Value.pointer a8, Value.string s73, Value.int IntKind.i64 n69])
 h70 fun (v74 : Value) (h75 : Heap) =>
 ∃ (a76 : Option Addr),
 ∃ (k77 : Nat),
 ∃ (k78 : Nat),
 ∃ (n79 : Int),
 v74 =
 Value.tuple
 (Array.mk
 [Value.slice a76 k77 k78, Value.int IntKind.i64 n79]) ∧
 ∃ (s80 : ByteArray),
 ((!n79 != (0 : Int)) = true →
 Reads Try.prog
 (convert (22 : Nat) (9 : Nat) (Value.slice a76 k77 k78))
 h75 (Value.string s80)) ∧
 br (n79 != (0 : Int) || !s80.toList == s72.toList)
 (R (Value.bool false) h75)
 (I66 b68 (IntKind.i64.wrap (n69 + (1 : Int))) h75 ∧
 I67 b68 (IntKind.i64.wrap (n69 + (1 : Int))) h75 <
 I67 b68 n69 h70))
 (I51 b68 (IntKind.i64.wrap (n54 + (1 : Int))) h70 ∧
 I52 b68 (IntKind.i64.wrap (n54 + (1 : Int))) h70 < I52 b53 n54 h55))
 (HC Try.prog (19 : Nat) (Array.mk [Value.pointer none, Value.int IntKind.u64 (1 : Int)]) h55 fun (v81 : Value) (h82 : Heap) =>
 v81 = Value.tuple (Array.mk []) ∧
 HC Try.prog (20 : Nat) (Array.mk [Value.pointer none]) h82 fun (v83 : Value) (h84 : Heap) =>
 v83 = Value.tuple (Array.mk []) ∧
 HC Try.prog (18 : Nat)
 (Array.mk [Value.pointer none, Value.int IntKind.i64 (1 : Int), Value.int IntKind.u64 (1 : Int)]) h84
 fun (v85 : Value) (h86 : Heap) =>
 v85 = Value.tuple (Array.mk []) ∧
 HC Try.prog (16 : Nat)
 (Array.mk
 [Value.pointer none, Value.string (ByteArray.mk (Array.mk [(97 : UInt8)])), Value.int IntKind.i64 (0 : Int)])
 h86 fun (v87 : Value) (h88 : Heap) =>
 ∃ (a89 : Option Addr),
 ∃ (k90 : Nat),
 ∃ (k91 : Nat),
 ∃ (n92 : Int),
 v87 = Value.tuple (Array.mk [Value.slice a89 k90 k91, Value.int IntKind.i64 n92]) ∧
 br (decide (n92 = (2 : Int)))
 (HC Try.prog (15 : Nat)
 (Array.mk
 [Value.pointer none, Value.string (ByteArray.mk (Array.mk [(97 : UInt8)])),
 Value.int IntKind.i64 (0 : Int), Value.slice none (0 : Nat) (0 : Nat)])
 h88 fun (v93 : Value) (h94 : Heap) =>
 ∃ (n95 : Int),
 v93 = Value.int IntKind.i64 n95 ∧
 br (decide (n95 = (2 : Int)))
 (HC Try.prog (17 : Nat)
 (Array.mk [Value.pointer none, Value.string (ByteArray.mk (Array.mk [(97 : UInt8)]))]) h94
 fun (v96 : Value) (h97 : Heap) =>
 ∃ (n98 : Int),
 v96 = Value.int IntKind.i64 n98 ∧
 br (decide (n98 = (2 : Int)))
 (HC Try.prog (24 : Nat)
 (Array.mk
 [Value.pointer none, Value.string (ByteArray.mk (Array.mk [(97 : UInt8)])),
 Value.int IntKind.i64 (0 : Int)])
 h97 fun (v99 : Value) (h100 : Heap) =>
 ∃ (n101 : Int),
 v99 = Value.int IntKind.i64 n101 ∧
 br (decide (n101 = (2 : Int)))
 (HC Try.prog (26 : Nat)
 (Array.mk
 [Value.pointer none,
 Value.string (ByteArray.mk (Array.mk [(97 : UInt8)])),
 Value.string (ByteArray.mk (Array.mk [(98 : UInt8)]))])
 h100 fun (v102 : Value) (h103 : Heap) =>
 ∃ (n104 : Int),
 v102 = Value.int IntKind.i64 n104 ∧
 br (decide (n104 = (2 : Int)))
 (HC Try.prog (25 : Nat)
 (Array.mk
 [Value.pointer none,
 Value.string (ByteArray.mk (Array.mk [(97 : UInt8)]))])
 h103 fun (v105 : Value) (h106 : Heap) =>
 ∃ (n107 : Int),
 v105 = Value.int IntKind.i64 n107 ∧
 br (decide (n107 = (2 : Int)))
 (HC Try.prog (33 : Nat) (Array.mk [Value.pointer none]) h106
 fun (v108 : Value) (h109 : Heap) =>
 ∃ (a110 : Option Addr),
 ∃ (k111 : Nat),
 ∃ (k112 : Nat),
 v108 = Value.slice a110 k111 k112 ∧
 br (decide ((↑k111 : Int) = (0 : Int)))
 (HC Try.prog (30 : Nat)
 (Array.mk [Value.pointer none]) h109
 fun (v113 : Value) (h114 : Heap) =>
 ∃ (n115 : Int),
 v113 = Value.int IntKind.i64 n115 ∧
 br (decide (n115 = (0 : Int)))
 (HC Try.prog (31 : Nat)
 (Array.mk [Value.pointer none]) h114
 fun (v116 : Value) (h117 : Heap) =>
 ∃ (b118 : Bool),
 v116 = Value.bool b118 ∧
 br (bif b118 then false else true)
 (HC Try.prog (22 : Nat)
 (Array.mk
 [Value.pointer none])
 h117
 fun (v119 : Value)
 (h120 : Heap) =>
 ∃ (n121 : Int),
 v119 =
 Value.int IntKind.i64
 n121 ∧
 br
 (decide
 (n121 = (0 : Int)))
 (HC Try.prog (21 : Nat)
 (Array.mk
 [Value.pointer none,
 Value.string
 (ByteArray.mk
 (Array.mk
 [(97 :
 UInt8)]))])
 h120
 fun (v122 : Value)
 (h123 : Heap) =>
 ∃ (n124 : Int),
 v122 =
 Value.int
 IntKind.i64
 n124 ∧
 br
 (decide
 (n124 =
 (0 : Int)))
 (HC Try.prog
 (23 : Nat)
 (Array.mk
 [Value.pointer
 none,
 Value.string
 (ByteArray.mk
 (Array.mk
 [(97 :
 UInt8)]))])
 h123
 fun
 (v125 :
 Value)
 (h126 :
 Heap) =>
 ∃ (b127 :
 Bool),
 v125 =
 Value.bool
 b127 ∧
 R
 (Value.bool
 !b127)
 h126)
 (R
 (Value.bool
 false)
 h123))
 (R (Value.bool false)
 h120))
 (R (Value.bool false) h117))
 (R (Value.bool false) h114))
 (R (Value.bool false) h109))
 (R (Value.bool false) h106))
 (R (Value.bool false) h103))
 (R (Value.bool false) h100))
 (R (Value.bool false) h97))
 (R (Value.bool false) h94))
 (R (Value.bool false) h88)))))) := by kernel_rfl

theorem vcTwinsL (r : Int) (A : Option Addr) (n c : Nat) (h : Heap) (R : Value → Heap → Prop) :
    vcF Try.prog Try.f8 71 [] [] [.int .i64 r, .slice A n c] h R =
(HC Try.prog (13 : Nat) (Array.mk []) h fun (v0 : Value) (h1 : Heap) =>
 ∃ (b2 : Bool),
 v0 = Value.bool b2 ∧
 br (!b2) (R (Value.bool false) h1)
 (HC Try.prog (27 : Nat) (Array.mk [Value.slice A n c]) h1 fun (v3 : Value) (h4 : Heap) =>
 ∃ (b5 : Bool),
 v3 = Value.bool b5 ∧
 br b5 (R (Value.bool true) h4)
 (HC Try.prog (14 : Nat) (Array.mk [Value.int IntKind.i64 r]) h4 fun (v6 : Value) (h7 : Heap) =>
 ∃ (a8 : Option Addr),
 v6 = Value.pointer a8 ∧
 HC Try.prog (14 : Nat) (Array.mk [Value.int IntKind.i64 r]) h7 fun (v9 : Value) (h10 : Heap) =>
 ∃ (a11 : Option Addr),
 v9 = Value.pointer a11 ∧
 HC Try.prog (28 : Nat) (Array.mk [Value.int IntKind.i64 r]) h10 fun (v12 : Value) (h13 : Heap) =>
 ∃ (a14 : Option Addr),
 v12 = Value.pointer a14 ∧
 HC Try.prog (28 : Nat) (Array.mk [Value.int IntKind.i64 r]) h13 fun (v15 : Value) (h16 : Heap) =>
 ∃ (a17 : Option Addr),
 v15 = Value.pointer a17 ∧
 ∃ (I18 : Bool → Int → Heap → Prop),
 ∃ (I19 : Bool → Int → Heap → Nat),
 I18 false (0 : Int) h16 ∧
 ∀ (b20 : Bool) (n21 : Int) (h22 : Heap),
 I18 b20 n21 h22 →
 br (decide (n21 < (↑n : Int)))
 (∃ (p23 : Addr),
 (A = some p23 ∧ (0 : Int) ≤ n21 ∧ n21 < (↑n : Int)) ∧
 ∃ (n24 : Int),
 ∃ (s25 : ByteArray),
 ∃ (s26 : ByteArray),
 ∃ (n27 : Int),
 ∃ (a28 : Option Addr),
 ∃ (k29 : Nat),
 ∃ (k30 : Nat),
 ∃ (n31 : Int),
 Reads Try.prog (Instr.loadAt (54 : Nat) (Value.pointer (some (p23.add (n21.toNat * (6 : Nat)))))) h22
 (Value.agg
 (Array.mk
 [Value.int IntKind.i64 n24, Value.string s25, Value.string s26, Value.int IntKind.i64 n27, Value.slice a28 k29 k30,
 Value.int IntKind.u64 n31])) ∧
 SVC Try.prog
 (Instr.storeAt (54 : Nat) (Value.pointer (some (Addr.mk (Array.size h22) (0 : Nat) none)))
 (Value.agg
 (Array.mk
 [Value.int IntKind.i64 n24, Value.string s25, Value.string s26, Value.int IntKind.i64 n27, Value.slice a28 k29 k30,
 Value.int IntKind.u64 n31])))
 (Array.push h22
 (Obj.cells
 (Array.mk
 [Value.int IntKind.i64 (0 : Int), Value.string (ByteArray.mk (Array.mk [])),
 Value.string (ByteArray.mk (Array.mk [])), Value.int IntKind.i64 (0 : Int), Value.slice none (0 : Nat) (0 : Nat),
 Value.int IntKind.u64 (0 : Int)])
 (54 : Nat)))
 fun (x32 : Unit) (h33 : Heap) =>
 ∃ (n34 : Int),
 ∃ (s35 : ByteArray),
 ∃ (s36 : ByteArray),
 ∃ (n37 : Int),
 ∃ (a38 : Option Addr),
 ∃ (k39 : Nat),
 ∃ (k40 : Nat),
 ∃ (n41 : Int),
 Reads Try.prog (Instr.loadAt (54 : Nat) (Value.pointer (some (Addr.mk (Array.size h22) (0 : Nat) none))))
 h33
 (Value.agg
 (Array.mk
 [Value.int IntKind.i64 n34, Value.string s35, Value.string s36, Value.int IntKind.i64 n37,
 Value.slice a38 k39 k40, Value.int IntKind.u64 n41])) ∧
 HC Try.prog (29 : Nat)
 (Array.mk
 [Value.pointer a8, Value.pointer a14,
 Value.agg
 (Array.mk
 [Value.int IntKind.i64 n34, Value.string s35, Value.string s36, Value.int IntKind.i64 n37,
 Value.slice a38 k39 k40, Value.int IntKind.u64 n41])])
 h33 fun (v42 : Value) (h43 : Heap) =>
 ∃ (b44 : Bool),
 v42 = Value.bool b44 ∧
 ∃ (n45 : Int),
 ∃ (s46 : ByteArray),
 ∃ (s47 : ByteArray),
 ∃ (n48 : Int),
 ∃ (a49 : Option Addr),
 ∃ (k50 : Nat),
 ∃ (k51 : Nat),
 ∃ (n52 : Int),
 ((!!b44) = true →
 Reads Try.prog
 (Instr.loadAt (54 : Nat)
 (Value.pointer (some (Addr.mk (Array.size h22) (0 : Nat) none))))
 h43
 (Value.agg
 (Array.mk
 [Value.int IntKind.i64 n45, Value.string s46, Value.string s47,
 Value.int IntKind.i64 n48, Value.slice a49 k50 k51,
 Value.int IntKind.u64 n52]))) ∧
 br (bif bif b44 then false else true then false else true)
 (HC Try.prog (29 : Nat)
 (Array.mk
 [Value.pointer a11, Value.pointer a17,
 Value.agg
 (Array.mk
 [Value.int IntKind.i64 n45, Value.string s46, Value.string s47,
 Value.int IntKind.i64 n48, Value.slice a49 k50 k51,
 Value.int IntKind.u64 n52])])
 h43 fun (v53 : Value) (h54 : Heap) =>
 ∃ (b55 : Bool),
 v53 = Value.bool b55 ∧
 br (bif bif b55 then false else true then false else true)
 (HC Try.prog (30 : Nat) (Array.mk [Value.pointer a8]) h54
 fun (v56 : Value) (h57 : Heap) =>
 ∃ (n58 : Int),
 v56 = Value.int IntKind.i64 n58 ∧
 HC Try.prog (30 : Nat) (Array.mk [Value.pointer a11]) h57
 fun (v59 : Value) (h60 : Heap) =>
 ∃ (n61 : Int),
 v59 = Value.int IntKind.i64 n61 ∧
 br
 (bif bif n58 == n61 then false else true then false
 else true)
 (HC Try.prog (31 : Nat) (Array.mk [Value.pointer a8]) h60
 fun (v62 : Value) (h63 : Heap) =>
 ∃ (b64 : Bool),
 v62 = Value.bool b64 ∧
 HC Try.prog (31 : Nat)
 (Array.mk [Value.pointer a11]) h63
 fun (v65 : Value) (h66 : Heap) =>
 ∃ (b67 : Bool),
 v65 = Value.bool b67 ∧
 ∃ (b68 : Bool),
 (true = true →
 Reads Try.prog
 (eqSem BinOp.neq (4 : Nat)
 (Operand.tmp (50 : Nat))
 (Operand.tmp (52 : Nat))
 (Value.bool b64) (Value.bool b67))
 h66 (Value.bool b68)) ∧
 br (bif b68 then false else true)
 (HC Try.prog (22 : Nat)
 (Array.mk [Value.pointer a8]) h66
 fun (v69 : Value) (h70 : Heap) =>
 ∃ (n71 : Int),
 v69 = Value.int IntKind.i64 n71 ∧
 HC Try.prog (22 : Nat)
 (Array.mk [Value.pointer a11])
 h70
 fun (v72 : Value)
 (h73 : Heap) =>
 ∃ (n74 : Int),
 v72 =
 Value.int IntKind.i64
 n74 ∧
 br
 (bif
 bif n71 == n74 then
 false
 else true then
 false
 else true)
 (HC Try.prog (33 : Nat)
 (Array.mk
 [Value.pointer a8])
 h73
 fun (v75 : Value)
 (h76 : Heap) =>
 ∃ (a77 : Option Addr),
 ∃ (k78 : Nat),
 ∃ (k79 : Nat),
 v75 =
 Value.slice
 a77 k78
 k79 ∧
 HC Try.prog
 (33 : Nat)
 (Array.mk
 [Value.pointer
 a11])
 h76
 fun
 (v80 :
 Value)
 (h81 :
 Heap) =>
 ∃ (a82 :
 Option
 Addr),
 ∃ (k83 :
 Nat),
 ∃ (k84 :
 Nat),
 v80 =
 Value.slice
 a82
 k83
 k84 ∧
 HC
 Try.prog
 (32 :
 Nat)
 (Array.mk
 [Value.slice
 a77
 k78
 k79,
 Value.slice
 a82
 k83
 k84])
 h81
 fun
 (v85 :
 Value)
 (h86 :
 Heap) =>
 ∃
 (b87
 :
 Bool),
 v85 =
 Value.bool
 b87 ∧
 br
 (!b87)
 (R
 (Value.bool
 false)
 h86)
 (I18
 b20
 (IntKind.i64.wrap
 (n21 +
 (1 :
 Int)))
 h86 ∧
 I19
 b20
 (IntKind.i64.wrap
 (n21 +
 (1 :
 Int)))
 h86 <
 I19
 b20
 n21
 h22))
 (R (Value.bool false)
 h73))
 (R (Value.bool false) h66))
 (R (Value.bool false) h60))
 (R (Value.bool false) h54))
 (R (Value.bool false) h43))
 (R (Value.bool true) h22)))) := by kernel_rfl
end Go.Proofs.Ytembbemljejjbaa
