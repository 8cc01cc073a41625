/-
  Texts of this seat, laid one behind the other: Ls7 LmTw KwL LmK. Conditions: none.
-/
import Derived.Test.YtkhinnchplahlaaGreatDoorY5
import Derived.Test.YtkhinnchplahlaaGreatDoorProg
import Derived.KernelRfl
import Derived.Test.YtkhinnchplahlaaGreatDoorRows
import Derived.ProofKit
import Derived.LaidLaws
import Derived.Deep.DeepLaidRun
import Derived.Lib.LaidTab
section
set_option linter.unusedVariables false
set_option maxRecDepth 100000
namespace Go.Proofs.YtkhinnchplahlaaGreatDoor
open Go Go.Vc Go.Proofs

theorem vcLAgain (A : Option Addr) (n c : Nat) (h : Heap) (R : Value → Heap → Prop) :
    vcF Tryz.prog Tryz.f4 80 [] [] [.slice A n c] h R =
(HC Tryz.prog (8 : Nat) (Array.mk []) h fun (v0 : Value) (h1 : Heap) =>
 ∃ (b2 : Bool),
 v0 = Value.bool b2 ∧
 br (!b2) (R (Value.bool false) h1)
 (HC Tryz.prog (9 : Nat) (Array.mk [Value.slice A n c]) h1 fun (v3 : Value) (h4 : Heap) =>
 ∃ (b5 : Bool),
 v3 = Value.bool b5 ∧
 br b5 (R (Value.bool true) h4)
 (HC Tryz.prog (10 : Nat) (Array.mk [Value.int IntKind.i64 (4096 : Int)]) h4 fun (v6 : Value) (h7 : Heap) =>
 ∃ (a8 : Option Addr),
 v6 = Value.pointer a8 ∧
 HC Tryz.prog (11 : Nat) (Array.mk [Value.pointer a8, Value.string (ByteArray.mk (Array.mk [(116 : UInt8)]))]) h7 fun (v9 : Value) (h10 : Heap) =>
 ∃ (a11 : Option Addr),
 ∃ (n12 : Int),
 v9 = Value.tuple (Array.mk [Value.pointer a11, Value.int IntKind.i64 n12]) ∧
 HC Tryz.prog (11 : Nat) (Array.mk [Value.pointer a8, Value.string (ByteArray.mk (Array.mk [(111 : UInt8), (116 : UInt8), (104 : UInt8), (101 : UInt8), (114 : UInt8)]))])
 h10 fun (v13 : Value) (h14 : Heap) =>
 ∃ (a15 : Option Addr),
 ∃ (n16 : Int),
 v13 = Value.tuple (Array.mk [Value.pointer a15, Value.int IntKind.i64 n16]) ∧
 br (n16 != (0 : Int)) (R (Value.bool false) h14)
 (∃ (I17 : Bool → Option Addr → Int → Option Addr → Nat → Nat → Option Addr → Nat → Nat → Int → Heap → Prop),
 ∃ (I18 : Bool → Option Addr → Int → Option Addr → Nat → Nat → Option Addr → Nat → Nat → Int → Heap → Nat),
 I17 false a11 n16 none (0 : Nat) (0 : Nat) none (0 : Nat) (0 : Nat) (0 : Int) h14 ∧
 ∀ (b19 : Bool) (a20 : Option Addr) (n21 : Int) (a22 : Option Addr) (k23 k24 : Nat) (a25 : Option Addr) (k26 k27 : Nat) (n28 : Int) (h29 : Heap),
 I17 b19 a20 n21 a22 k23 k24 a25 k26 k27 n28 h29 →
 br (decide (n28 < (↑n : Int)))
 (∃ (p30 : Addr),
 (A = some p30 ∧ (0 : Int) ≤ n28 ∧ n28 < (↑n : Int)) ∧
 ∃ (a31 : Option Addr),
 ∃ (k32 : Nat),
 ∃ (k33 : Nat),
 ∃ (s34 : ByteArray),
 ∃ (n35 : Int),
 ∃ (b36 : Bool),
 ∃ (b37 : Bool),
 ∃ (n38 : Int),
 ∃ (n39 : Int),
 Reads Tryz.prog (Instr.loadAt (35 : Nat) (Value.pointer (some (p30.add (n28.toNat * (7 : Nat)))))) h29
 (Value.agg
 (Array.mk
 [Value.slice a31 k32 k33, Value.string s34, Value.int IntKind.i64 n35, Value.bool b36, Value.bool b37,
 Value.int IntKind.i64 n38, Value.int IntKind.u64 n39])) ∧
 SVC Tryz.prog
 (Instr.storeAt (35 : Nat) (Value.pointer (some (Addr.mk (Array.size h29) (0 : Nat) none)))
 (Value.agg
 (Array.mk
 [Value.slice a31 k32 k33, Value.string s34, Value.int IntKind.i64 n35, Value.bool b36, Value.bool b37,
 Value.int IntKind.i64 n38, Value.int IntKind.u64 n39])))
 (Array.push h29
 (Obj.cells
 (Array.mk
 [Value.slice none (0 : Nat) (0 : Nat), Value.string (ByteArray.mk (Array.mk [])), Value.int IntKind.i64 (0 : Int),
 Value.bool false, Value.bool false, Value.int IntKind.i64 (0 : Int), Value.int IntKind.u64 (0 : Int)])
 (35 : Nat)))
 fun (x40 : Unit) (h41 : Heap) =>
 ∃ (a42 : Option Addr),
 ∃ (k43 : Nat),
 ∃ (k44 : Nat),
 Reads Tryz.prog (Instr.loadAt (32 : Nat) (Value.pointer (some (Addr.mk (Array.size h29) (0 : Nat) none)))) h41
 (Value.slice a42 k43 k44) ∧
 HC Tryz.prog (12 : Nat) (Array.mk [Value.slice a42 k43 k44]) h41 fun (v45 : Value) (h46 : Heap) =>
 ∃ (b47 : Bool),
 v45 = Value.bool b47 ∧
 br b47
 (I17 b19 a20 n21 a22 k23 k24 a25 k26 k27 (IntKind.i64.wrap (n28 + (1 : Int))) h46 ∧
 I18 b19 a20 n21 a22 k23 k24 a25 k26 k27 (IntKind.i64.wrap (n28 + (1 : Int))) h46 <
 I18 b19 a20 n21 a22 k23 k24 a25 k26 k27 n28 h29)
 ((2 : Int) ≠ (0 : Int) ∧
 br (n28.tmod (2 : Int) == (0 : Int))
 (∃ (a48 : Option Addr),
 ∃ (k49 : Nat),
 ∃ (k50 : Nat),
 Reads Tryz.prog
 (Instr.loadAt (32 : Nat) (Value.pointer (some (Addr.mk (Array.size h29) (0 : Nat) none))))
 h46 (Value.slice a48 k49 k50) ∧
 HC Tryz.prog (14 : Nat) (Array.mk [Value.slice a22 k23 k24, Value.slice a48 k49 k50]) h46
 fun (v51 : Value) (h52 : Heap) =>
 ∃ (a53 : Option Addr),
 ∃ (k54 : Nat),
 ∃ (k55 : Nat),
 v51 = Value.slice a53 k54 k55 ∧
 ∃ (a56 : Option Addr),
 ∃ (k57 : Nat),
 ∃ (k58 : Nat),
 Reads Tryz.prog
 (Instr.loadAt (32 : Nat)
 (Value.pointer (some (Addr.mk (Array.size h29) (0 : Nat) none))))
 h52 (Value.slice a56 k57 k58) ∧
 HC Tryz.prog (13 : Nat)
 (Array.mk [Value.pointer a20, Value.slice a56 k57 k58]) h52
 fun (v59 : Value) (h60 : Heap) =>
 ∃ (n61 : Int),
 v59 = Value.int IntKind.i64 n61 ∧
 br (n61 != (0 : Int)) (R (Value.bool false) h60)
 (∃ (b62 : Bool),
 Reads Tryz.prog
 (Instr.loadAt (4 : Nat)
 (Value.pointer
 (some
 ((Addr.mk (Array.size h29) (0 : Nat) none).add
 (4 : Nat)))))
 h60 (Value.bool b62) ∧
 br b62
 (HC Tryz.prog (11 : Nat)
 (Array.mk
 [Value.pointer a8,
 Value.string (ByteArray.mk (Array.mk [(116 : UInt8)]))])
 h60 fun (v63 : Value) (h64 : Heap) =>
 ∃ (a65 : Option Addr),
 ∃ (n66 : Int),
 v63 =
 Value.tuple
 (Array.mk
 [Value.pointer a65,
 Value.int IntKind.i64 n66]) ∧
 br (n66 != (0 : Int)) (R (Value.bool false) h64)
 (HC Tryz.prog (15 : Nat)
 (Array.mk
 [Value.pointer a65, Value.slice a53 k54 k55])
 h64 fun (v67 : Value) (h68 : Heap) =>
 ∃ (b69 : Bool),
 v67 = Value.bool b69 ∧
 br
 (bif bif b69 then false else true then false
 else true)
 (HC Tryz.prog (15 : Nat)
 (Array.mk
 [Value.pointer a15,
 Value.slice a25 k26 k27])
 h68 fun (v70 : Value) (h71 : Heap) =>
 ∃ (b72 : Bool),
 v70 = Value.bool b72 ∧
 br (!b72) (R (Value.bool false) h71)
 (I17 b19 a65 n66 a53 k54 k55 a25 k26
 k27
 (IntKind.i64.wrap
 (n28 + (1 : Int)))
 h71 ∧
 I18 b19 a65 n66 a53 k54 k55 a25
 k26 k27
 (IntKind.i64.wrap
 (n28 + (1 : Int)))
 h71 <
 I18 b19 a20 n21 a22 k23 k24 a25
 k26 k27 n28 h29))
 (R (Value.bool false) h68)))
 (HC Tryz.prog (15 : Nat)
 (Array.mk [Value.pointer a20, Value.slice a53 k54 k55]) h60
 fun (v73 : Value) (h74 : Heap) =>
 ∃ (b75 : Bool),
 v73 = Value.bool b75 ∧
 br
 (bif bif b75 then false else true then false
 else true)
 (HC Tryz.prog (15 : Nat)
 (Array.mk
 [Value.pointer a15, Value.slice a25 k26 k27])
 h74 fun (v76 : Value) (h77 : Heap) =>
 ∃ (b78 : Bool),
 v76 = Value.bool b78 ∧
 br (!b78) (R (Value.bool false) h77)
 (I17 b19 a20 n61 a53 k54 k55 a25 k26 k27
 (IntKind.i64.wrap (n28 + (1 : Int))) h77 ∧
 I18 b19 a20 n61 a53 k54 k55 a25 k26 k27
 (IntKind.i64.wrap (n28 + (1 : Int)))
 h77 <
 I18 b19 a20 n21 a22 k23 k24 a25 k26 k27
 n28 h29))
 (R (Value.bool false) h74))))
 (∃ (a79 : Option Addr),
 ∃ (k80 : Nat),
 ∃ (k81 : Nat),
 Reads Tryz.prog
 (Instr.loadAt (32 : Nat) (Value.pointer (some (Addr.mk (Array.size h29) (0 : Nat) none))))
 h46 (Value.slice a79 k80 k81) ∧
 HC Tryz.prog (14 : Nat) (Array.mk [Value.slice a25 k26 k27, Value.slice a79 k80 k81]) h46
 fun (v82 : Value) (h83 : Heap) =>
 ∃ (a84 : Option Addr),
 ∃ (k85 : Nat),
 ∃ (k86 : Nat),
 v82 = Value.slice a84 k85 k86 ∧
 ∃ (a87 : Option Addr),
 ∃ (k88 : Nat),
 ∃ (k89 : Nat),
 Reads Tryz.prog
 (Instr.loadAt (32 : Nat)
 (Value.pointer (some (Addr.mk (Array.size h29) (0 : Nat) none))))
 h83 (Value.slice a87 k88 k89) ∧
 HC Tryz.prog (13 : Nat)
 (Array.mk [Value.pointer a15, Value.slice a87 k88 k89]) h83
 fun (v90 : Value) (h91 : Heap) =>
 ∃ (n92 : Int),
 v90 = Value.int IntKind.i64 n92 ∧
 br (n92 != (0 : Int)) (R (Value.bool false) h91)
 (∃ (b93 : Bool),
 Reads Tryz.prog
 (Instr.loadAt (4 : Nat)
 (Value.pointer
 (some
 ((Addr.mk (Array.size h29) (0 : Nat) none).add
 (4 : Nat)))))
 h91 (Value.bool b93) ∧
 br b93
 (HC Tryz.prog (11 : Nat)
 (Array.mk
 [Value.pointer a8,
 Value.string (ByteArray.mk (Array.mk [(116 : UInt8)]))])
 h91 fun (v94 : Value) (h95 : Heap) =>
 ∃ (a96 : Option Addr),
 ∃ (n97 : Int),
 v94 =
 Value.tuple
 (Array.mk
 [Value.pointer a96,
 Value.int IntKind.i64 n97]) ∧
 br (n97 != (0 : Int)) (R (Value.bool false) h95)
 (HC Tryz.prog (15 : Nat)
 (Array.mk
 [Value.pointer a96, Value.slice a22 k23 k24])
 h95 fun (v98 : Value) (h99 : Heap) =>
 ∃ (b100 : Bool),
 v98 = Value.bool b100 ∧
 br
 (bif bif b100 then false else true then
 false
 else true)
 (HC Tryz.prog (15 : Nat)
 (Array.mk
 [Value.pointer a15,
 Value.slice a84 k85 k86])
 h99 fun (v101 : Value) (h102 : Heap) =>
 ∃ (b103 : Bool),
 v101 = Value.bool b103 ∧
 br (!b103) (R (Value.bool false) h102)
 (I17 b19 a96 n97 a22 k23 k24 a84 k85
 k86
 (IntKind.i64.wrap
 (n28 + (1 : Int)))
 h102 ∧
 I18 b19 a96 n97 a22 k23 k24 a84
 k85 k86
 (IntKind.i64.wrap
 (n28 + (1 : Int)))
 h102 <
 I18 b19 a20 n21 a22 k23 k24 a25
 k26 k27 n28 h29))
 (R (Value.bool false) h99)))
 (HC Tryz.prog (15 : Nat)
 (Array.mk [Value.pointer a20, Value.slice a22 k23 k24]) h91
 fun (v104 : Value) (h105 : Heap) =>
 ∃ (b106 : Bool),
 v104 = Value.bool b106 ∧
 br
 (bif bif b106 then false else true then false
 else true)
 (HC Tryz.prog (15 : Nat)
 (Array.mk
 [Value.pointer a15, Value.slice a84 k85 k86])
 h105 fun (v107 : Value) (h108 : Heap) =>
 ∃ (b109 : Bool),
 v107 = Value.bool b109 ∧
 br (!b109) (R (Value.bool false) h108)
 (I17 b19 a20 n92 a22 k23 k24 a84 k85 k86
 (IntKind.i64.wrap (n28 + (1 : Int)))
 h108 ∧
 I18 b19 a20 n92 a22 k23 k24 a84 k85 k86
 (IntKind.i64.wrap (n28 + (1 : Int)))
 h108 <
 I18 b19 a20 n21 a22 k23 k24 a25 k26 k27
 n28 h29))
 (R (Value.bool false) h105))))))
 (R (Value.bool true) h29))))) := by kernel_rfl
end Go.Proofs.YtkhinnchplahlaaGreatDoor
end

section
set_option linter.unusedVariables false
set_option linter.unusedSimpArgs false
set_option maxRecDepth 100000
namespace Go.Proofs.YtkhinnchplahlaaGreatDoor
open Go Go.Vc Go.Proofs Go.Dk Go.Kv Go.Ls Go.Cd
open Go.Pg (Quiet Nx layW partB nparts partsW partsW_len)

/-- a tree on a disk, beside what was there (below B) and what is put beside it: N. -/
structure Tre (FO : Str → Prop) (B : Nat) (h0 : Heap) (t d : Nat) (nm : Str) (j u : Nat) (G : Heap) (g : Nat → Nat) (N : Nat → Prop) (x : D) (T : TS) : Prop where
  tr : TrAt g G t d nm (tw T)
  dn : DN N d x G
  gN : ∀ q, g q ≠ 0 → N q
  old : ∀ q, q < B → N q ∧ g q = 0
  tf : TF nm x.now T
  q : Quiet x
  few : Few u T
  room : x.room ≤ 4096
  wt : x.waits.length ≤ 110000 * j
  fo : ∀ f, (mGet x.now f).isSome = true → FO f
  own : ∀ f, (f = nm ∨ under nm f) → FO f
  up : UpdM (fun q => B ≤ q) h0 G
  tab : TabH G
section
variable {FO : Str → Prop} {B t d j u : Nat} {h0 G G' : Heap} {nm : Str} {g : Nat → Nat} {N : Nat → Prop} {x : D} {T : TS}
theorem Tre.keep (o : Tre FO B h0 t d nm j u G g N x T) (k : Keep G.size G G') : Tre FO B h0 t d nm j u G' g N x T :=
  ⟨o.tr.keep k, o.dn.keep k, o.gN, o.old, o.tf, o.q, o.few, o.room, o.wt, o.fo, o.own, o.up.trans k.m, o.tab.updM k.m (S := fun _ => False) id⟩
theorem Tre.wide (o : Tre FO B h0 t d nm j u G g N x T) (k : Keep G.size G G') : Tre FO B h0 t d nm j u G' g (Nv N G G') x T :=
  ⟨o.tr.keep k, o.dn.wide2 k, fun q hq => .inl (o.gN q hq), fun q hq => ⟨.inl (o.old q hq).1, (o.old q hq).2⟩, o.tf, o.q, o.few, o.room, o.wt, o.fo, o.own, o.up.trans k.m, o.tab.updM k.m (S := fun _ => False) id⟩
theorem Tre.next (o : Tre FO B h0 t d nm j u G g N x T) {j' u' : Nat} (hj : j ≤ j') (hu : u ≤ u') : Tre FO B h0 t d nm j' u' G g N x T := by
  have f := o.few
  exact ⟨o.tr, o.dn, o.gN, o.old, o.tf, o.q, ⟨by have := f.names; omega, by have := f.all; omega, by have := f.next; omega, by have := f.last; omega⟩, o.room, Nat.le_trans o.wt (Nat.mul_le_mul_left _ hj), o.fo, o.own, o.up, o.tab⟩
/-- what new blocks are: no tree's. -/
theorem Tre.new (o : Tre FO B h0 t d nm j u G g N x T) {q : Nat} (hq : G.size ≤ q) : g q = 0 := by
  by_cases h : g q = 0
  · exact h
  · have := o.tr.lt q h; omega
theorem Tre.bounds (o : Tre FO B h0 t d nm j u G g N x T) (hu : u ≤ 1100) : T.names.length ≤ 90 ∧ T.next ≤ 100000 ∧ T.last < 1000000 ∧ T.tabs.flatten.length ≤ 100000 ∧ T.mem.length ≤ 100000 ∧ T.tabs.length ≤ 90 ∧ (logB T.recs).length ≤ 100000000 ∧ T.tabs.flatten.length + T.mem.length ≤ 100000 := by
  have h1 := o.few.names
  have h2 := o.few.all
  have h3 := o.few.next
  have h4 := o.few.last
  have h5 := o.tf.lens
  have h6 := o.tf.log_len o.few (by omega)
  omega
/-- it is opened anew. -/
theorem Tre.open_ (o : Tre FO B h0 t d nm j u G g N x T) (hnm : nm.size ≤ 1000000) (hgb : gb < B) (hu : u ≤ 1100) (n1 : ∀ f ∈ Dk.names x.now, f.size ≤ 9223372036854775807) (n2 : x.now.length ≤ 1000000) :
    HC Tryz.prog 11 #[.pointer (some ⟨d, 0, none⟩), .string nm] G fun vv h' => Keep G.size G h' ∧ ∃ t g', vv = .tuple #[.pointer (some ⟨t, 0, none⟩), .int .i64 0] ∧ Tre FO B h0 t d nm j u h' g' (Nv N G h') x T ∧ (∀ q, g' q ≠ 0 → G.size ≤ q) := by
  obtain ⟨b1, b2, b3, b4, b5, _, b7, _⟩ := o.bounds hu
  refine (topen_spec o.dn hnm o.tab (o.old gb hgb).1 o.tf o.q b1 b2 b3 b4 b5 n1 n2 b7).mono ?_
  rintro v h' ⟨k, t', g', rfl, tr, gn, _⟩
  have hB : B ≤ G.size := by
    by_cases h0 : B ≤ G.size
    · exact h0
    · have := o.dn.lt (o.old G.size (by omega)).1; omega
  refine ⟨k, t', g', rfl, ⟨tr, o.dn.wide2 k, fun q hq => .inr (gn q hq), fun q hq => ⟨.inl (o.old q hq).1, ?_⟩, o.tf, o.q, o.few, o.room, o.wt, o.fo, o.own, o.up.trans k.m, o.tab.updM k.m (S := fun _ => False) id⟩, fun q hq => (gn q hq).1⟩
  by_cases h0 : g' q = 0
  · exact h0
  · have := (gn q h0).1; omega
/-- writes are done. -/
theorem Tre.apply {A : Option Addr} {n c : Nat} {l : List Wr} (o : Tre FO B h0 t d nm j u G g N x T) (hnm : nm.size ≤ 1000000) (hgb : gb < B) (hu : long l = false → u + n ≤ 1100) (hj : j ≤ 700) (hs : Sl WrE G A n l) (hc : n ≤ c) (hn : n ≤ 9223372036854775807) (hA : n ≠ 0 → ∀ q, blk A q → N q ∧ g q = 0) (hl : long l = false) :
    HC Tryz.prog 13 #[.pointer (some ⟨t, 0, none⟩), .slice A n c] G fun vv h' =>
      (vv = .int .i64 7 ∧ Tre FO B h0 t d nm (j + 1) (u + n) h' g N x T ∧ Keep G.size G h' ∧ ¬ 2000 ≤ Dk.free x) ∨
      (vv = .int .i64 0 ∧ ∃ S g' N' x' T', Tre FO B h0 t d nm (j + 1) (u + n) h' g' N' x' T' ∧ T'.pairs = doneAll T.pairs l ∧ UpdM S G h' ∧ (∀ q, N q → g q = 0 → ¬ S q ∧ N' q ∧ (q < G.size → g' q = 0)) ∧ x'.room = x.room ∧ (2000 ≤ Dk.free x → T.tabs.length ≤ 3 → T'.tabs.length ≤ 3) ∧ tot x'.now + phi T = tot x.now + phi T' ∧ (∀ q, N' q → N q ∨ g' q ≠ 0) ∧ (∀ q, q < G.size → g' q = g q) ∧ (∀ q, N q → N' q) ∧ (∀ f, f ≠ nm → ¬ under nm f → mGet x'.now f = mGet x.now f) ∧ (∀ q, S q → ¬ N q ∨ g q ≠ 0)) := by
  have hln := hs.1
  have hw := o.wt
  have hr := o.room
  have hgb2 := o.old gb hgb
  have hB : B ≤ G.size := by
    by_cases h0 : B ≤ G.size
    · exact h0
    · have := o.dn.lt (o.old G.size (by omega)).1; omega
  refine (lapply_spec o.tr hnm o.tab hgb2 o.dn o.gN o.tf o.q o.few hu hs hc hn hA (by omega) (by omega)).mono ?_
  rintro v h' hv
  rcases hv with ⟨h0, _⟩ | ⟨_, h0, rfl, k⟩ | ⟨_, _, rfl, k, hno, _⟩ | ⟨_, hne, rfl, g', x', T', tr, ap⟩
  · rw [hl] at h0; cases h0
  · subst h0
    refine .inr ⟨rfl, fun _ => False, g, N, x, T, (o.keep k).next (by omega) (by omega), rfl, k.m, fun q h1 h2 => ⟨id, h1, fun _ => h2⟩, rfl, fun _ h => h, rfl, fun q h => .inl h, fun q _ => rfl, fun q h => h, fun f _ _ => rfl, fun q h => h.elim⟩
  · exact .inl ⟨rfl, (o.keep k).next (by omega) (by omega), k, hno⟩
  · refine .inr ⟨rfl, fun q => ¬ N q ∨ g q = 1 ∨ g q = 2 ∨ g q = 3 ∨ g q = 4, g', fun q => N q ∨ g' q ≠ 0, x', T', ⟨tr.tr, tr.dn, fun q hq => .inr hq, fun q hq => ⟨.inl (o.old q hq).1, by rw [tr.ext q (by omega)]; exact (o.old q hq).2⟩, ap.tf, ap.q, ?_, by rw [ap.room]; exact hr, ?_, fun f hf => ?_, o.own, ?_, ?_⟩, ap.pairs, tr.up, fun q h1 h2 => ⟨fun h3 => ?_, .inl h1, fun h4 => by rw [tr.ext q h4]; exact h2⟩, ap.room, ap.tabs, ap.tot, fun q h => h, tr.ext, fun q h => .inl h, ap.oth, fun q h => ?_⟩
    · have := ap.few; rw [hln] at this; exact this
    · have := ap.waits; omega
    · by_cases h1 : f = nm
      · exact o.own f (.inl h1)
      · by_cases h2 : under nm f
        · exact o.own f (.inr h2)
        · rw [ap.oth f h1 h2] at hf; exact o.fo f hf
    · refine o.up.trans' tr.up fun q hq h3 => ?_
      by_cases hq2 : q < B
      · exfalso
        obtain ⟨h4, h5⟩ := o.old q hq2
        rw [h5] at h3
        rcases h3 with h3 | h3 | h3 | h3 | h3
        · exact h3 h4
        all_goals cases h3
      · show B ≤ q
        omega
    · refine o.tab.updM tr.up fun h3 => ?_
      rw [hgb2.2] at h3
      rcases h3 with h3 | h3 | h3 | h3 | h3
      · exact h3 hgb2.1
      all_goals cases h3
    · have h3 : ¬ N q ∨ g q = 1 ∨ g q = 2 ∨ g q = 3 ∨ g q = 4 := h3
      rw [h2] at h3
      rcases h3 with h3 | h3 | h3 | h3 | h3
      · exact h3 h1
      all_goals cases h3
    · rcases h with h | h | h | h | h
      · exact .inl h
      all_goals exact .inr (by rw [h]; decide)
theorem Tre.has {A : Option Addr} {n c : Nat} (o : Tre FO B h0 t d nm j u G g N x T) (hu : u ≤ 1100) (hs : Sl StrPairE G A n T.pairs) :
    HC Tryz.prog 15 #[.pointer (some ⟨t, 0, none⟩), .slice A n c] G fun v h' => Keep G.size G h' ∧ v = .bool true := by
  obtain ⟨b1, b2, b3, b4, b5, b6, b7, b8⟩ := o.bounds hu
  exact lhas_spec o.tr (fun U hU => (o.tf.tab U hU).1) (by omega) (by omega) hs
end
section
variable {FO : Str → Prop} {B t t2 d j u u2 : Nat} {h0 G G' : Heap} {nm nm2 : Str} {g g2 : Nat → Nat} {N : Nat → Prop} {x : D} {T T2 : TS}
/-- another tree, behind what was done on one. -/
theorem Tre.other {j' u' : Nat} {g' : Nat → Nat} {N' S : Nat → Prop} {x' : D} {T' : TS} (o2 : Tre FO B h0 t2 d nm2 j u2 G g2 N x T2) (o' : Tre FO B h0 t d nm j' u' G' g' N' x' T') (dis : ∀ q, g2 q ≠ 0 → g q = 0)
    (hap : ∀ f, (f = nm2 ∨ under nm2 f) → f ≠ nm ∧ ¬ under nm f) (uS : UpdM S G G') (hS : ∀ q, S q → ¬ N q ∨ g q ≠ 0) (hN : ∀ q, N q → N' q) (oth : ∀ f, f ≠ nm → ¬ under nm f → mGet x'.now f = mGet x.now f) :
    Tre FO B h0 t2 d nm2 j' u2 G' g2 N' x' T2 :=
  ⟨o2.tr.same uS fun q hq h => (hS q h).elim (fun h => h (o2.gN q hq)) fun h => h (dis q hq), o'.dn, fun q hq => hN q (o2.gN q hq), fun q hq => ⟨(o'.old q hq).1, (o2.old q hq).2⟩, o2.tf.frame o'.tf.srt (fun f hf => oth f (hap f hf).1 (hap f hf).2), o'.q, o2.few, o'.room, o'.wt, o'.fo, o2.own, o'.up, o'.tab⟩
end
section
variable {FO : Str → Prop} {B t d j u : Nat} {h0 G : Heap} {nm : Str} {g : Nat → Nat} {N : Nat → Prop} {x : D} {T : TS}
/-- writes are done, where there is room. -/
theorem Tre.put {A : Option Addr} {n c R : Nat} {l : List Wr} (o : Tre FO B h0 t d nm j u G g N x T) (hnm : nm.size ≤ 1000000) (hgb : gb < B) (hu : u + n ≤ 1100) (hj : j ≤ 700) (hs : Sl WrE G A n l) (hc : n ≤ c) (hA : n ≠ 0 → ∀ q, blk A q → N q ∧ g q = 0) (hl : long l = false)
    (hroom : x.room = 4096) (htot : tot x.now = phi T + R) (hR : R + u ≤ 2000) :
    HC Tryz.prog 13 #[.pointer (some ⟨t, 0, none⟩), .slice A n c] G fun vv h' => vv = .int .i64 0 ∧ ∃ S g' N' x' T', Tre FO B h0 t d nm (j + 1) (u + n) h' g' N' x' T' ∧ T'.pairs = doneAll T.pairs l ∧ UpdM S G h' ∧ (∀ q, N q → g q = 0 → ¬ S q ∧ N' q ∧ (q < G.size → g' q = 0)) ∧
      x'.room = 4096 ∧ tot x'.now = phi T' + R ∧ (T.tabs.length ≤ 3 → T'.tabs.length ≤ 3) ∧ (∀ q, q < G.size → g' q = g q) ∧ (∀ q, N q → N' q) ∧ (∀ f, f ≠ nm → ¬ under nm f → mGet x'.now f = mGet x.now f) ∧ (∀ q, S q → ¬ N q ∨ g q ≠ 0) := by
  have hphi := o.tf.phi_le o.few (by omega)
  have hf : 2000 ≤ Dk.free x := by unfold Dk.free; omega
  refine (o.apply hnm hgb (fun _ => hu) hj hs hc (by omega) hA hl).mono ?_
  rintro v h' hv
  rcases hv with ⟨_, _, _, h7⟩ | ⟨rfl, S, g', N', x', T', o', hp, uS, hS, hr, htb, htt, _, ext, hN, oth, hS2⟩
  · exact absurd hf h7
  · exact ⟨rfl, S, g', N', x', T', o', hp, uS, hS, by rw [hr]; exact hroom, by omega, htb hf, ext, hN, oth, hS2⟩
end
def nmO : Str := ⟨#[111, 116, 104, 101, 114]⟩
theorem starts {nm f : Str} {b : UInt8} {r : List UInt8} (hb : nm.data.toList = b :: r) (h : f = nm ∨ under nm f) : f.data.toList.head? = some b := by
  rcases h with rfl | ⟨s, h⟩
  · rw [hb]; rfl
  · rw [h, hb]; rfl
/-- names that begin otherwise belong to no other tree. -/
theorem apart {nm nm2 : Str} {b b2 : UInt8} {r r2 : List UInt8} (h1 : nm.data.toList = b :: r) (h2 : nm2.data.toList = b2 :: r2) (hne : b ≠ b2) : ∀ f, (f = nm2 ∨ under nm2 f) → f ≠ nm ∧ ¬ under nm f := fun f hf => by
  have e2 := starts h2 hf
  refine ⟨fun e => ?_, fun e => ?_⟩
  · have e1 := starts h1 (.inl e)
    rw [e1] at e2; exact hne (Option.some.inj e2)
  · have e1 := starts h1 (.inr e)
    rw [e1] at e2; exact hne (Option.some.inj e2)
def foA (f : Str) : Prop := (f = nmT ∨ under nmT f) ∨ (f = nmO ∨ under nmO f)
/-- the files of two trees. -/
theorem two_names {F : Fs} {nm1 nm2 : Str} {T1 T2 : TS} (hF : SrtF F) (tf1 : TF nm1 F T1) (tf2 : TF nm2 F T2) (h : ∀ f, (mGet F f).isSome = true → (f = nm1 ∨ under nm1 f) ∨ (f = nm2 ∨ under nm2 f)) (s1 : nm1.size ≤ 1000000) (s2 : nm2.size ≤ 1000000)
    (n1 : T1.names.length ≤ 90 ∧ T1.next ≤ 100000) (n2 : T2.names.length ≤ 90 ∧ T2.next ≤ 100000) : (∀ f ∈ names F, f.size ≤ 9223372036854775807) ∧ F.length ≤ 1000000 := by
  have a1 := next_new tf1.inc
  have a2 := next_new tf2.inc
  refine names_in (L := flist nm1 T1 ++ flist nm2 T2) hF (fun f hf => ?_) (fun f hf => ?_) ?_
  · rcases h f hf with h1 | h1
    · exact List.mem_append_left _ (flist_mem tf1 h1 hf)
    · exact List.mem_append_right _ (flist_mem tf2 h1 hf)
  · rcases List.mem_append.1 hf with hf | hf
    · exact flist_size s1 (fun n hn => by have := a1 n hn; omega) f hf
    · exact flist_size s2 (fun n hn => by have := a2 n hn; omega) f hf
  · unfold flist
    simp
    omega
/-- two trees beside one another, and what the document says of them. -/
structure Both (FO : Str → Prop) (nm1 nm2 : Str) (B : Nat) (h0 : Heap) (d t1 t2 j u1 u2 : Nat) (G : Heap) (g1 g2 : Nat → Nat) (N : Nat → Prop) (x : D) (T1 T2 : TS) (a : Option Addr) (k : Nat) (b : Option Addr) (kb : Nat) : Prop where
  o1 : Tre FO B h0 t1 d nm1 j u1 G g1 N x T1
  o2 : Tre FO B h0 t2 d nm2 j u2 G g2 N x T2
  dis : ∀ q, g1 q ≠ 0 → g2 q = 0
  room : x.room = 4096
  tot : tot x.now = phi T1 + phi T2
  sa : Sl StrPairE G a k T1.pairs
  sb : Sl StrPairE G b kb T2.pairs
  oa : ∀ q, blk a q → N q ∧ g1 q = 0 ∧ g2 q = 0
  ob : ∀ q, blk b q → N q ∧ g1 q = 0 ∧ g2 q = 0
section
variable {FO : Str → Prop} {nm1 nm2 : Str} {B d t1 t2 j u1 u2 k kb : Nat} {h0 G G' : Heap} {g1 g2 : Nat → Nat} {N : Nat → Prop} {x : D} {T1 T2 : TS} {a b : Option Addr}
theorem Both.swap (o : Both FO nm1 nm2 B h0 d t1 t2 j u1 u2 G g1 g2 N x T1 T2 a k b kb) : Both FO nm2 nm1 B h0 d t2 t1 j u2 u1 G g2 g1 N x T2 T1 b kb a k := by
  refine ⟨o.o2, o.o1, fun q hq => ?_, o.room, by rw [o.tot]; exact Nat.add_comm _ _, o.sb, o.sa, fun q hq => ?_, fun q hq => ?_⟩
  · by_cases h0 : g1 q = 0
    · exact h0
    · exact absurd (o.dis q h0) hq
  · obtain ⟨h1, h2, h3⟩ := o.ob q hq; exact ⟨h1, h3, h2⟩
  · obtain ⟨h1, h2, h3⟩ := o.oa q hq; exact ⟨h1, h3, h2⟩
theorem Both.wide (o : Both FO nm1 nm2 B h0 d t1 t2 j u1 u2 G g1 g2 N x T1 T2 a k b kb) (kk : Keep G.size G G') : Both FO nm1 nm2 B h0 d t1 t2 j u1 u2 G' g1 g2 (Nv N G G') x T1 T2 a k b kb :=
  ⟨o.o1.wide kk, o.o2.wide kk, o.dis, o.room, o.tot, o.sa.keep kk, o.sb.keep kk, fun q hq => ⟨.inl (o.oa q hq).1, (o.oa q hq).2⟩, fun q hq => ⟨.inl (o.ob q hq).1, (o.ob q hq).2⟩⟩
theorem Both.next (o : Both FO nm1 nm2 B h0 d t1 t2 j u1 u2 G g1 g2 N x T1 T2 a k b kb) {j' u1' u2' : Nat} (hj : j ≤ j') (h1 : u1 ≤ u1') (h2 : u2 ≤ u2') : Both FO nm1 nm2 B h0 d t1 t2 j' u1' u2' G g1 g2 N x T1 T2 a k b kb :=
  ⟨o.o1.next hj h1, o.o2.next hj h2, o.dis, o.room, o.tot, o.sa, o.sb, o.oa, o.ob⟩
theorem Both.put1 (o : Both FO nm1 nm2 B h0 d t1 t2 j u1 u2 G g1 g2 N x T1 T2 a k b kb) (hnm : nm1.size ≤ 1000000) (hgb : gb < B) {A : Option Addr} {n c : Nat} {l : List Wr} (hu : u1 + n ≤ 1100) (hj : j ≤ 700) (hs : Sl WrE G A n l) (hc : n ≤ c)
    (hA : n ≠ 0 → ∀ q, blk A q → N q ∧ g1 q = 0) (hl : long l = false) (hR : phi T2 + u1 ≤ 2000) (hap : ∀ f, (f = nm2 ∨ under nm2 f) → f ≠ nm1 ∧ ¬ under nm1 f)
    {a' : Option Addr} {k' : Nat} (sa' : Sl StrPairE G a' k' (doneAll T1.pairs l)) (oa' : ∀ q, blk a' q → N q ∧ g1 q = 0 ∧ g2 q = 0) :
    HC Tryz.prog 13 #[.pointer (some ⟨t1, 0, none⟩), .slice A n c] G fun v h' => v = .int .i64 0 ∧ ∃ S g1' N' x' T1', Both FO nm1 nm2 B h0 d t1 t2 (j + 1) (u1 + n) u2 h' g1' g2 N' x' T1' T2 a' k' b kb ∧ UpdM S G h' ∧ (∀ q, N q → g1 q = 0 → ¬ S q) := by
  refine (o.o1.put hnm hgb hu hj hs hc hA hl o.room o.tot hR).mono ?_
  rintro v h' ⟨rfl, S, g', N', x', T', O', hp, uS, hS, hr, htt, _, ext, hN, oth, hS2⟩
  refine ⟨rfl, S, g', N', x', T', ⟨O', o.o2.other O' (fun q hq => o.swap.dis q hq) hap uS hS2 hN oth, fun q hq => ?_, hr, htt, ?_, ?_, fun q hq => ?_, fun q hq => ?_⟩, uS, fun q h1 h2 => (hS q h1 h2).1⟩
  · by_cases h0 : q < G.size
    · rw [ext q h0] at hq; exact o.dis q hq
    · exact o.o2.new (by omega)
  · rw [hp]; exact sa'.updM uS fun _ q hq => (hS q (oa' q hq).1 (oa' q hq).2.1).1
  · exact o.sb.updM uS fun _ q hq => (hS q (o.ob q hq).1 (o.ob q hq).2.1).1
  · obtain ⟨h1, h2, h3⟩ := oa' q hq
    exact ⟨hN q h1, (hS q h1 h2).2.2 (o.o1.dn.lt h1), h3⟩
  · obtain ⟨h1, h2, h3⟩ := o.ob q hq
    exact ⟨hN q h1, (hS q h1 h2).2.2 (o.o1.dn.lt h1), h3⟩
end
section
variable {B d t1 t2 j u1 u2 k kb : Nat} {h0 G G' : Heap} {g1 g2 : Nat → Nat} {N : Nat → Prop} {x : D} {T1 T2 : TS} {a b : Option Addr}
theorem Both.tail {y : Sp} {bx ca cb : Nat} {n0 : Int} {F : Heap → Prop} {K : Option Addr → Int → Heap → Prop} (o : Both foA nmT nmO B h0 d t1 t2 j u1 u2 G g1 g2 N x T1 T2 a k b kb) (hgb : gb < B) (hu1 : u1 ≤ 1100) (hu2 : u2 ≤ 1100) (hb : G[bx]? = some (spBox y))
    (hK : ∀ t1' n G' g1' N', Both foA nmT nmO B h0 d t1' t2 j u1 u2 G' g1' g2 N' x T1 T2 a k b kb → K (some ⟨t1', 0, none⟩) n G') :
    ∃ b62 : Bool, Reads Tryz.prog (Instr.loadAt 4 (.pointer (some ((⟨bx, 0, none⟩ : Addr).add 4)))) G (.bool b62) ∧
      br b62 (HC Tryz.prog 11 #[.pointer (some ⟨d, 0, none⟩), .string ⟨#[116]⟩] G fun v63 h64 => ∃ (a65 : Option Addr), ∃ (n66 : Int), v63 = .tuple #[.pointer a65, .int .i64 n66] ∧ br (n66 != (0 : Int)) (F h64)
        (HC Tryz.prog 15 #[.pointer a65, .slice a k ca] h64 fun v67 h68 => ∃ b69 : Bool, v67 = .bool b69 ∧ br (bif bif b69 then false else true then false else true)
          (HC Tryz.prog 15 #[.pointer (some ⟨t2, 0, none⟩), .slice b kb cb] h68 fun v70 h71 => ∃ b72 : Bool, v70 = .bool b72 ∧ br (!b72) (F h71) (K a65 n66 h71)) (F h68)))
      (HC Tryz.prog 15 #[.pointer (some ⟨t1, 0, none⟩), .slice a k ca] G fun v67 h68 => ∃ b69 : Bool, v67 = .bool b69 ∧ br (bif bif b69 then false else true then false else true)
          (HC Tryz.prog 15 #[.pointer (some ⟨t2, 0, none⟩), .slice b kb cb] h68 fun v70 h71 => ∃ b72 : Bool, v70 = .bool b72 ∧ br (!b72) (F h71) (K (some ⟨t1, 0, none⟩) n0 h71)) (F h68)) := by
  have hb1 := o.o1.bounds hu1
  have hb2 := o.o2.bounds hu2
  refine ⟨_, sp_again hb, br_intro (fun _ => ?_) fun _ => ?_⟩
  · obtain ⟨n1, n2⟩ := two_names o.o1.tf.srt o.o1.tf o.o2.tf (fun f hf => o.o1.fo f hf) (by decide) (by decide) ⟨hb1.1, hb1.2.1⟩ ⟨hb2.1, hb2.2.1⟩
    refine (o.o1.open_ (by decide) hgb hu1 n1 n2).mono ?_
    rintro v h64 ⟨k64, t', g', rfl, O1, hg'⟩
    have w := o.wide k64
    have O : Both foA nmT nmO B h0 d t' t2 j u1 u2 h64 g' g2 (Nv N G h64) x T1 T2 a k b kb := by
      refine ⟨O1, w.o2, fun q hq => o.o2.new (hg' q hq), o.room, o.tot, w.sa, w.sb, fun q hq => ?_, fun q hq => ?_⟩
      · have h1 := o.oa q hq
        refine ⟨(w.oa q hq).1, ?_, h1.2.2⟩
        by_cases h0 : g' q = 0
        · exact h0
        · have := hg' q h0; have := o.o1.dn.lt h1.1; omega
      · have h1 := o.ob q hq
        refine ⟨(w.ob q hq).1, ?_, h1.2.2⟩
        by_cases h0 : g' q = 0
        · exact h0
        · have := hg' q h0; have := o.o1.dn.lt h1.1; omega
    refine ⟨_, _, rfl, br_intro (fun e => by simp at e) fun _ => (O.o1.has hu1 O.sa).mono ?_⟩
    rintro v h68 ⟨k68, rfl⟩
    have P := O.wide k68
    refine ⟨_, rfl, br_intro (fun _ => (P.o2.has hu2 P.sb).mono ?_) fun e => by cases e⟩
    rintro v h71 ⟨k71, rfl⟩
    exact ⟨_, rfl, br_intro (fun e => by cases e) fun _ => hK _ _ _ _ _ (P.wide k71)⟩
  · refine (o.o1.has hu1 o.sa).mono ?_
    rintro v h68 ⟨k68, rfl⟩
    have P := o.wide k68
    refine ⟨_, rfl, br_intro (fun _ => (P.o2.has hu2 P.sb).mono ?_) fun e => by cases e⟩
    rintro v h71 ⟨k71, rfl⟩
    exact ⟨_, rfl, br_intro (fun e => by cases e) fun _ => hK _ _ _ _ _ (P.wide k71)⟩
end
set_option maxHeartbeats 4000000 in
theorem again_spec {h : Heap} (tab : TabH h) {A : Option Addr} {n c : Nat} {l : List Sp} (hs : Sl SpE h A n l) (hok : ∀ x ∈ l, SpOk h x) (hn : n ≤ 9223372036854775807) :
    HC Tryz.prog 4 #[.slice A n c] h fun v h' => Keep h.size h h' ∧ v = .bool true := by
  refine hc_stay ?_
  have hl := hs.1
  have hgb : gb < h.size := by obtain ⟨a, b, hb⟩ := tab; exact at_lt hb
  have hrb : reachBytes ≤ 140737488355328 := by decide
  have apT : ∀ f, (f = nmO ∨ under nmO f) → f ≠ nmT ∧ ¬ under nmT f := apart (b := 116) (b2 := 111) (r := []) (r2 := [116, 104, 101, 114]) rfl rfl (by decide)
  have apO : ∀ f, (f = nmT ∨ under nmT f) → f ≠ nmO ∧ ¬ under nmO f := apart (b := 111) (b2 := 116) (r := [116, 104, 101, 114]) (r2 := []) rfl rfl (by decide)
  refine HC_of_vc (args := [.slice A n c]) (base := 80) (cuts := []) (bigs := []) kM Tryz.func4 ?_
  rw [vcLAgain]
  refine (alive11_spec tab).mono ?_
  rintro v h1 ⟨k1, rfl⟩
  refine ⟨_, rfl, br_intro (fun e => by cases e) fun _ => (great11_spec (hs.keep k1) (fun x hx => (hok x hx).updM k1.m (S := fun _ => False) fun _ _ _ => id) hn).mono ?_⟩
  rintro v h4 ⟨k4, b5, rfl, hgr⟩
  have k04 := k1.trans (k4.mono k1.size)
  have z04 := k04.size
  refine ⟨_, rfl, br_intro (fun _ => ⟨(k04.m (S := fun _ => False)).turn fun _ _ => id, rfl⟩) fun e1 => ?_⟩
  obtain ⟨hn60, hsum⟩ := hgr e1
  have tab4 := tab.updM k04.m (S := fun _ => False) id
  have hgb4 : gb < h4.size := by omega
  refine (new_dn h4 4096).mono ?_
  rintro v h7 ⟨k7, d, rfl, dn7⟩
  have z7 := k7.size
  have tab7 := tab4.updM k7.m (S := fun _ => False) id
  have tf0 : ∀ nm : Str, TF nm (Dk.new 4096).now T0 := fun nm => TF.new List.Pairwise.nil fun f _ => rfl
  have hroom : (Dk.new 4096).room = 4096 := by decide
  have fo0 : ∀ f, (mGet (Dk.new 4096).now f).isSome = true → foA f := fun f hf => by cases hf
  refine ⟨_, rfl, (topen_spec (T := T0) (nm := nmT) dn7 (by decide) tab7 hgb4 (tf0 _) (new_quiet 4096) (by decide) (by decide) (by decide) (by decide) (by decide) (fun f hf => by cases hf) (by decide) (by decide)).mono ?_⟩
  rintro v h10 ⟨k10, t1, g1, rfl, tr1, gn1, _⟩
  have z10 := k10.size
  have dn10 : DN (Nv (fun q => q < h4.size) h7 h10) d (Dk.new 4096) h10 := dn7.wide2 k10
  have tab10 := tab7.updM k10.m (S := fun _ => False) id
  refine ⟨_, _, rfl, (topen_spec (T := T0) (nm := nmO) dn10 (by decide) tab10 (.inl hgb4) (tf0 _) (new_quiet 4096) (by decide) (by decide) (by decide) (by decide) (by decide) (fun f hf => by cases hf) (by decide) (by decide)).mono ?_⟩
  rintro v h14 ⟨k14, t2, g2, rfl, tr2, gn2, _⟩
  have z14 := k14.size
  have dn14 := dn10.wide2 k14
  have tab14 := tab10.updM k14.m (S := fun _ => False) id
  have up14 : UpdM (fun q => h4.size ≤ q) h4 h14 := (k7.trans ((k10.mono z7).trans (k14.mono (by omega)))).m
  have gz1 : ∀ q, q < h4.size → g1 q = 0 := fun q hq => by
    by_cases h0 : g1 q = 0
    · exact h0
    · have := (gn1 q h0).1; omega
  have gz2 : ∀ q, q < h10.size → g2 q = 0 := fun q hq => by
    by_cases h0 : g2 q = 0
    · exact h0
    · have := (gn2 q h0).1; omega
  have O : Both foA nmT nmO h4.size h4 d t1 t2 0 0 0 h14 g1 g2 (Nv (Nv (fun q => q < h4.size) h7 h10) h10 h14) (Dk.new 4096) T0 T0 none 0 none 0 :=
    ⟨⟨tr1.keep k14, dn14, fun q hq => .inl (.inr (gn1 q hq)), fun q hq => ⟨.inl (.inl hq), gz1 q hq⟩, tf0 _, new_quiet _, Few.new, by rw [hroom]; exact Nat.le_refl _, Nat.zero_le _, fo0, fun f hf => .inl hf, up14, tab14⟩,
    ⟨tr2, dn14, fun q hq => .inr (gn2 q hq), fun q hq => ⟨.inl (.inl hq), gz2 q (by omega)⟩, tf0 _, new_quiet _, Few.new, by rw [hroom]; exact Nat.le_refl _, Nat.zero_le _, fo0, fun f hf => .inr hf, up14, tab14⟩,
    fun q hq => gz2 q (gn1 q hq).2, hroom, rfl, Sl.nil _ _, Sl.nil _ _, fun q ⟨_, e, _⟩ => (by cases e), fun q ⟨_, e, _⟩ => (by cases e)⟩
  refine ⟨_, _, rfl, br_intro (fun e => by simp at e) fun _ => ?_⟩
  refine ⟨fun _ pt _ a k c' b kb cb n28 G => ∃ (j t1 u1 u2 : Nat) (g1 g2 : Nat → Nat) (N : Nat → Prop) (x : D) (T1 T2 : TS), pt = some ⟨t1, 0, none⟩ ∧ n28 = j ∧ j ≤ n ∧ u1 + u2 = sumW (l.take j) ∧
      Both foA nmT nmO h4.size h4 d t1 t2 j u1 u2 G g1 g2 N x T1 T2 a k b kb,
    fun _ _ _ _ _ _ _ _ _ n28 _ => n - n28.toNat, ⟨0, t1, 0, 0, g1, g2, _, _, T0, T0, rfl, rfl, Nat.zero_le _, by simp [sumW], O⟩, ?_⟩
  clear O
  rintro b19 pt n21 a22 k23 k24 a25 k26 k27 n28 G ⟨j, t1, u1, u2, g1, g2, N, x, T1, T2, rfl, rfl, hj, hu, O⟩
  have hsj := sumW_le l j
  have zG : h4.size ≤ G.size := O.o1.up.size
  refine br_intro (fun e => ?_) fun _ => ⟨(k04.m.trans O.o1.up).turn fun q hq h5 => by omega, rfl⟩
  have e := of_decide_eq_true e
  have hjl : j < l.length := by omega
  have hq : l[j]? = some (l[j]'hjl) := List.getElem?_eq_getElem hjl
  have hm := List.getElem_mem hjl
  generalize l[j]'hjl = y at hq hm
  have hst := sumW_take hq
  have hsj1 := sumW_le l (j + 1)
  have hAl : n ≠ 0 → ∀ q, blk A q → q < h.size := fun h0 => sl_lt (by decide) hs h0
  have up0 : UpdM (fun q => h4.size ≤ q) h G := k04.m.trans O.o1.up
  have sG : Sl SpE G A n l := hs.updM up0 fun h0 q hq h5 => by have := hAl h0 q hq; omega
  obtain ⟨y1, y2, y3, y4, y5, y6⟩ := hok y hm
  have hyl : y.ln ≠ 0 → ∀ q, blk y.a q → q < h.size := fun h0 => sl_lt (by decide) y1 h0
  have wln := y1.1
  obtain ⟨p22, ea, rd⟩ := sp_at sG hq
  refine ⟨p22, ⟨ea, by omega, e⟩, _, _, _, _, _, _, _, _, _, by rw [Int.toNat_natCast]; exact rd, svc_sp rfl ?_⟩
  have kb := keep_push G (spBox y)
  have bb := push_at G (spBox y)
  have zb : (G.push (spBox y)).size = G.size + 1 := by simp
  generalize G.push (spBox y) = G1 at kb bb zb
  refine ⟨_, _, _, sp_ws bb, (long08_spec ((y1.updM up0 fun h0 q hq h5 => by have := hyl h0 q hq; omega).keep kb) (by omega)).mono ?_⟩
  rintro v h38 ⟨k38, rfl⟩
  have kG38 := kb.trans (k38.mono (by omega))
  have z38 := kG38.size
  have z39 : G.size < h38.size := by have := k38.size; omega
  have P := O.wide kG38
  have b38 := k38.at bb (by omega)
  have hjj : IntKind.i64.wrap ((j : Int) + (1 : Int)) = ((j + 1 : Nat) : Int) := by rw [wrap_i64 (by omega) (by omega)]; rfl
  rw [hjj]
  refine ⟨_, rfl, br_intro (fun el => ?_) fun el => ⟨by decide, ?_⟩⟩
  · exact ⟨⟨j + 1, t1, u1 + y.ln, u2, g1, g2, _, x, T1, T2, rfl, rfl, by omega, by omega, P.next (by omega) (by omega) (by omega)⟩, by dsimp only; omega⟩
  have hl1024 := u0_long (hok y hm) el
  have w38 : Sl WrE h38 y.a y.ln y.ws := (y1.updM up0 fun h0 q hq h5 => by have := hyl h0 q hq; omega).keep kG38
  have hb1 := O.o1.bounds (by omega)
  have hb2 := O.o2.bounds (by omega)
  have hpl1 := pairs_len T1
  have hpl2 := pairs_len T2
  have ph1 := O.o1.tf.phi_le O.o1.few (by omega)
  have ph2 := O.o2.tf.phi_le O.o2.few (by omega)
  have hgb4 : gb < h4.size := by omega
  have boxN : Nv N G h38 G.size ∧ g1 G.size = 0 ∧ g2 G.size = 0 := ⟨.inr ⟨Nat.le_refl _, by omega⟩, O.o1.new (Nat.le_refl _), O.o2.new (Nat.le_refl _)⟩
  refine br_intro (fun _ => ?_) fun _ => ?_
  · refine ⟨_, _, _, sp_ws b38, (all08_spec P.sa (srt_pairs T1) w38 (by omega)).mono ?_⟩
    rintro v h52 ⟨k52, a53, k54, k55, rfl, s52, b52⟩
    have Q := P.wide k52
    have b52' := k52.at b38 (by omega)
    refine ⟨_, _, _, rfl, _, _, _, sp_ws b52', (Q.put1 (by decide) hgb4 (by omega) (by omega) (w38.keep k52) y2 (fun h0 q hq => ?_) el (by omega) apT s52 fun q hq => ?_).mono ?_⟩
    · have h5 := O.o1.old q (by have := hyl h0 q hq; omega)
      exact ⟨.inl (.inl h5.1), h5.2⟩
    · rcases b52 q hq with h5 | h5
      · exact Q.oa q h5
      · exact ⟨.inr h5, P.o1.new h5.1, P.o2.new h5.1⟩
    · rintro v h60 ⟨rfl, S, g1', N', x', T1', O', uS, hS⟩
      have b60 : h60[G.size]? = some (spBox y) := uS.cells b52' (hS G.size (.inl boxN.1) boxN.2.1)
      exact ⟨_, rfl, br_intro (fun e => by simp at e) fun _ => O'.tail (n0 := 0) hgb4 (by omega) (by omega) b60 fun t1' n' G' g1'' N'' R => ⟨⟨j + 1, t1', u1 + y.ln, u2, g1'', g2, N'', x', T1', T2, rfl, rfl, by omega, by omega, R⟩, by dsimp only; omega⟩⟩
  · refine ⟨_, _, _, sp_ws b38, (all08_spec P.sb (srt_pairs T2) w38 (by omega)).mono ?_⟩
    rintro v h52 ⟨k52, a53, k54, k55, rfl, s52, b52⟩
    have Q := P.wide k52
    have b52' := k52.at b38 (by omega)
    refine ⟨_, _, _, rfl, _, _, _, sp_ws b52', (Q.swap.put1 (by decide) hgb4 (by omega) (by omega) (w38.keep k52) y2 (fun h0 q hq => ?_) el (by omega) apO s52 fun q hq => ?_).mono ?_⟩
    · have h5 := O.o2.old q (by have := hyl h0 q hq; omega)
      exact ⟨.inl (.inl h5.1), h5.2⟩
    · rcases b52 q hq with h5 | h5
      · exact Q.swap.oa q h5
      · exact ⟨.inr h5, P.o2.new h5.1, P.o1.new h5.1⟩
    · rintro v h60 ⟨rfl, S, g2', N', x', T2', O', uS, hS⟩
      have b60 : h60[G.size]? = some (spBox y) := uS.cells b52' (hS G.size (.inl boxN.1) boxN.2.2)
      exact ⟨_, rfl, br_intro (fun e => by simp at e) fun _ => O'.swap.tail (n0 := 0) hgb4 (by omega) (by omega) b60 fun t1' n' G' g1'' N'' R => ⟨⟨j + 1, t1', u1, u2 + y.ln, g1'', g2', N'', x', T1, T2', rfl, rfl, by omega, by omega, R⟩, by dsimp only; omega⟩⟩
end Go.Proofs.YtkhinnchplahlaaGreatDoor
end

section
namespace Go.Proofs.YtkhinnchplahlaaGreatDoor
open Go

/-- so many blocks has the settled world. -/
noncomputable def low : Nat := (World.holding Tryz.prog default ⟨#[], #[], []⟩).heap.size
def lay (v : Array Value) : Obj → Obj
  | .cells _ t frozen => .cells v t frozen
  | o => o
noncomputable def laidWorld (os : Os) : World :=
  let w0 := World.holding Tryz.prog os ⟨#[.cells #[.string { data := #[105, 110, 118, 97, 108, 105, 100, 32, 115, 121, 110, 116, 97, 120] }] 273, .cells #[.string { data := #[118, 97, 108, 117, 101, 32, 111, 117, 116, 32, 111, 102, 32, 114, 97, 110, 103, 101] }] 273], #[], []⟩
  { w0 with heap := ((((w0.heap.modify 0 (lay #[.iface 271 (.pointer (some ⟨low, 0, none⟩))])).modify 1 (lay #[.iface 271 (.pointer (some ⟨low + 1, 0, none⟩))])).modify 2 (lay #[.int .u64 1, .int .u64 10, .int .u64 100, .int .u64 1000, .int .u64 10000, .int .u64 100000, .int .u64 1000000, .int .u64 10000000, .int .u64 100000000, .int .u64 1000000000, .int .u64 10000000000, .int .u64 100000000000, .int .u64 1000000000000, .int .u64 10000000000000, .int .u64 100000000000000, .int .u64 1000000000000000, .int .u64 10000000000000000, .int .u64 100000000000000000, .int .u64 1000000000000000000, .int .u64 10000000000000000000])).modify 3 (lay #[.int .u8 0, .int .u8 1, .int .u8 28, .int .u8 2, .int .u8 29, .int .u8 14, .int .u8 24, .int .u8 3, .int .u8 30, .int .u8 22, .int .u8 20, .int .u8 15, .int .u8 25, .int .u8 17, .int .u8 4, .int .u8 8, .int .u8 31, .int .u8 27, .int .u8 13, .int .u8 23, .int .u8 21, .int .u8 19, .int .u8 16, .int .u8 7, .int .u8 26, .int .u8 12, .int .u8 18, .int .u8 6, .int .u8 11, .int .u8 5, .int .u8 10, .int .u8 9])).modify 4 (lay #[.int .u8 0, .int .u8 1, .int .u8 56, .int .u8 2, .int .u8 57, .int .u8 49, .int .u8 28, .int .u8 3, .int .u8 61, .int .u8 58, .int .u8 42, .int .u8 50, .int .u8 38, .int .u8 29, .int .u8 17, .int .u8 4, .int .u8 62, .int .u8 47, .int .u8 59, .int .u8 36, .int .u8 45, .int .u8 43, .int .u8 51, .int .u8 22, .int .u8 53, .int .u8 39, .int .u8 33, .int .u8 30, .int .u8 24, .int .u8 18, .int .u8 12, .int .u8 5, .int .u8 63, .int .u8 55, .int .u8 48, .int .u8 27, .int .u8 60, .int .u8 41, .int .u8 37, .int .u8 16, .int .u8 46, .int .u8 35, .int .u8 44, .int .u8 21, .int .u8 52, .int .u8 32, .int .u8 23, .int .u8 11, .int .u8 54, .int .u8 26, .int .u8 40, .int .u8 15, .int .u8 34, .int .u8 20, .int .u8 31, .int .u8 10, .int .u8 25, .int .u8 14, .int .u8 19, .int .u8 9, .int .u8 13, .int .u8 8, .int .u8 7, .int .u8 6]) }
abbrev laidRows : List (String × DataW Unit) := [("math/bits.deBruijn32tab", Rows.laid_math_bits_deBruijn32tab), ("math/bits.deBruijn64tab", Rows.laid_math_bits_deBruijn64tab), ("internal/strconv.uint64pow10", Rows.laid_internal_strconv_uint64pow10), ("strconv.ErrRange", Rows.laid_strconv_ErrRange), ("strconv.ErrSyntax", Rows.laid_strconv_ErrSyntax)]
set_option maxRecDepth 100000 in
theorem laidWorld_met (os : Os) (args : Array Value) : laidMet Tryz.prog laidRows ((laidWorld os).forCall (fun _ _ => 0) ⟨#[], args, []⟩).memory :=
  laidMet_of_run3 8 (by kernel_rfl) (by kernel_rfl) (by kernel_rfl)
end Go.Proofs.YtkhinnchplahlaaGreatDoor
end

section
set_option linter.unusedVariables false
namespace Go.Proofs.YtkhinnchplahlaaGreatDoor
open Go Go.Vc Go.Proofs

set_option maxRecDepth 100000 in
theorem tab_of_laid {W : World} (h : laidMet Tryz.prog laidRows W) : TabH W.heap := by
  obtain ⟨ps, ⟨_, _, _, _, _, _, _, _, _, _, ⟨_, _, _, _, _, _, _, _, _, _, ⟨g', t', cs, fuel, p, q, hg', ht', hvar, hd, _, _⟩, _⟩, _⟩, _⟩ := h
  have hg : Tryz.prog.globalNamed "internal/strconv.uint64pow10" = some 2 := by kernel_rfl
  obtain rfl := Option.some.inj (hg.symm.trans hg')
  have hty : (Tryz.prog.globals[2]?).map (·.type) = some 280 := by kernel_rfl
  obtain rfl := Option.some.inj (hty.symm.trans ht')
  have e : (Rows.laid_internal_strconv_uint64pow10 : DataW Unit) = Lib.tabData .u64 Lib.pow10Tab := rfl
  rw [e] at hd
  have hcs := Lib.cells_of_tab (n := 20) (e := 33) (by kernel_rfl) (by kernel_rfl) (by kernel_rfl) (by kernel_rfl) hd
  unfold World.var? at hvar
  rw [hg] at hvar
  have hvar : (match W.heap[2]? with | some (Obj.cells cs _ _) => some cs | _ => none) = some cs := hvar
  cases hh : W.heap[2]? with
  | none => rw [hh] at hvar; cases hvar
  | some o =>
    rw [hh] at hvar
    cases o with
    | cells c t f =>
      have hc : c = cs := Option.some.inj hvar
      refine ⟨t, f, ?_⟩
      rw [hh, hc]
      have : cs = (Lib.pow10Tab.map fun z => Value.int .u64 z).toArray := by
        rw [← hcs]
      rw [this]
    | _ => cases hvar
end Go.Proofs.YtkhinnchplahlaaGreatDoor
end
