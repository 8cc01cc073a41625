/-
  A disk beside other things of the call's own. Conditions: none.
-/
import Derived.Test.YtembbemljejjbaaDkL
import Derived.Test.YtembbemljejjbaaDkB2
set_option linter.unusedVariables false
set_option linter.unusedSimpArgs false
set_option maxRecDepth 100000
namespace Go.Proofs.Ytembbemljejjbaa
open Go Go.Vc Go.Proofs Go.Dk

/-- a disk in blocks that are newer than h0, which stands; blocks of F are none of its. -/
def StF (h0 : Heap) (F : Nat → Prop) (d : Nat) (x : D) (h : Heap) : Prop :=
  ∃ O, DiskAt h d x O ∧ (∀ q, O q → h0.size ≤ q ∧ ¬ F q) ∧ Keep h0.size h0 h ∧ ∀ q, F q → h0.size ≤ q ∧ q < h.size
section
variable {h0 h h' : Heap} {F G : Nat → Prop} {d : Nat} {x x' : D}
theorem St.frame (hs : St h0 d x h) : StF h0 (fun _ => False) d x h := let ⟨O, a, b, c⟩ := hs; ⟨O, a, fun q hq => ⟨b q hq, id⟩, c, fun _ h => h.elim⟩
theorem StF.base (hs : StF h0 F d x h) : Keep h0.size h0 h := let ⟨_, _, _, k, _⟩ := hs; k
theorem StF.lt (hs : StF h0 F d x h) {q : Nat} (hq : F q) : h0.size ≤ q ∧ q < h.size := let ⟨_, _, _, _, f⟩ := hs; f q hq
theorem StF.ok (hs : StF h0 F d x h) : Ok x := let ⟨_, a, _⟩ := hs; a.ok
theorem StF.box (hs : StF h0 F d x h) : h0.size ≤ d ∧ ¬ F d ∧ d < h.size := let ⟨_, a, b, _⟩ := hs; ⟨(b d a.box).1, (b d a.box).2, a.1 d a.box⟩
/-- other things have turned, or are new. -/
theorem StF.own (hs : StF h0 F d x h) (u : Upd F h h') (hg : ∀ q, G q → (F q ∨ h.size ≤ q) ∧ q < h'.size) : StF h0 G d x h' := by
  obtain ⟨O, a, b, k, f⟩ := hs
  refine ⟨O, a.upd u fun q hq => (b q hq).2, fun q hq => ⟨(b q hq).1, fun hG => ?_⟩, k.trans (u.keep k.size fun q hq => (f q hq).1), fun q hq => ?_⟩
  · rcases (hg q hG).1 with h1 | h1
    · exact (b q hq).2 h1
    · have := a.1 q hq; omega
  · obtain ⟨h1, h2⟩ := hg q hq
    exact ⟨h1.elim (fun h => (f q h).1) fun h => Nat.le_trans k.size h, h2⟩
theorem StF.keep (hs : StF h0 F d x h) (k : Keep h.size h h') : StF h0 F d x h' := hs.own (k.upd F) fun q hq => ⟨.inl hq, Nat.lt_of_lt_of_le (hs.lt hq).2 k.size⟩
theorem StF.step {O : Nat → Prop} (h1 : DiskAt h d x O) (h2 : ∀ q, O q → h0.size ≤ q ∧ ¬ F q) (h3 : Keep h0.size h0 h) (h4 : ∀ q, F q → h0.size ≤ q ∧ q < h.size)
    (r : ∃ O', DiskAt h' d x' O' ∧ (∀ q, O' q → O q ∨ h.size ≤ q) ∧ Upd O h h') : StF h0 F d x' h' ∧ Upd (fun q => ¬ F q) h h' := by
  obtain ⟨O', a, b, c⟩ := r
  refine ⟨⟨O', a, fun q hq => ?_, h3.trans (c.keep h3.size fun q hq => (h2 q hq).1), fun q hq => ⟨(h4 q hq).1, Nat.lt_of_lt_of_le (h4 q hq).2 c.size⟩⟩, c.mono fun q hq => (h2 q hq).2⟩
  rcases b q hq with h5 | h5
  · exact h2 q h5
  · exact ⟨Nat.le_trans h3.size h5, fun hF => by have := (h4 q hF).2; omega⟩
/-- a write of a slice none of whose blocks is the disk's. -/
theorem StF.write (hs : StF h0 F d x h) {s b : Str} {i : Int} {A : Option Addr} {n c : Nat} (hsl : Sl ByteE h A n (bytesL b)) (hA : n ≠ 0 → ∀ q, blk A q → q < h0.size ∨ F q) (hw : x.waits.length < 1073741824) :
    HC Try.prog 15 #[.pointer (some ⟨d, 0, none⟩), .string s, .int .i64 i, .slice A n c] h fun v h' => (StF h0 F d (Dk.write x s i b).2 h' ∧ Upd (fun q => ¬ F q) h h') ∧ v = .int .i64 (Dk.write x s i b).1 := by
  obtain ⟨O, h1, h2, h3, h4⟩ := hs
  exact (write_spec0 h1 hsl (fun hn q hq hO => by
    rcases hA hn q hq with h5 | h5
    · have := (h2 q hO).1; omega
    · exact (h2 q hO).2 h5) hw).mono fun v h' ⟨O', a, b, c, e⟩ => ⟨StF.step h1 h2 h3 h4 ⟨O', a, b, c⟩, e⟩
/-- blocks of what stood ahead. -/
theorem blk_in {α : Type} {E : Enc α} (hz : 0 < E.sz) {A : Option Addr} {n : Nat} {xs : List α} (hsl : Sl E h0 A n xs) (hn : n ≠ 0) : ∀ q, blk A q → q < h0.size := fun q hq => by
  have hlen := hsl.1
  obtain ⟨p, hp, hc⟩ := hsl.get (i := 0) (List.getElem?_eq_getElem (by omega))
  obtain ⟨p', e, hq'⟩ := hq
  rw [hp] at e
  cases e
  have hj : 0 < (E.enc xs[0]).length := by rw [E.len]; exact hz
  have h4 := cell_lt (hc 0 _ (List.getElem?_eq_getElem hj))
  rw [Addr.add_block, hq'] at h4
  exact h4
theorem StF.writeIn (hs : StF h0 F d x h) {s b : Str} {i : Int} {A : Option Addr} {n c : Nat} (hsl : Sl ByteE h0 A n (bytesL b)) (hw : x.waits.length < 1073741824) :
    HC Try.prog 15 #[.pointer (some ⟨d, 0, none⟩), .string s, .int .i64 i, .slice A n c] h fun v h' => (StF h0 F d (Dk.write x s i b).2 h' ∧ Upd (fun q => ¬ F q) h h') ∧ v = .int .i64 (Dk.write x s i b).1 :=
  hs.write (hsl.keep hs.base) (fun hn q hq => .inl (blk_in (by decide) hsl hn q hq)) hw
theorem StF.off (hs : StF h0 F d x h) {keep : Int} (hk : 0 ≤ keep ∧ keep < 18446744073709551616) (hw : x.waits.length ≤ 1073741824) :
    HC Try.prog 19 #[.pointer (some ⟨d, 0, none⟩), .int .u64 keep] h fun v h' => (StF h0 F d (Dk.off keep x) h' ∧ Upd (fun q => ¬ F q) h h') ∧ v = .tuple #[] := by
  obtain ⟨O, h1, h2, h3, h4⟩ := hs
  exact (off_spec h1 hk hw).mono fun v h' ⟨O', a, b, c, e⟩ => ⟨StF.step h1 h2 h3 h4 ⟨O', a, b, c⟩, e⟩
theorem StF.on (hs : StF h0 F d x h) : HC Try.prog 20 #[.pointer (some ⟨d, 0, none⟩)] h fun v h' => (StF h0 F d (Dk.on x) h' ∧ Upd (fun q => ¬ F q) h h') ∧ v = .tuple #[] := by
  obtain ⟨O, h1, h2, h3, h4⟩ := hs
  exact (on_spec h1).mono fun v h' ⟨a, c, e⟩ => ⟨StF.step h1 h2 h3 h4 ⟨O, a, fun q h => .inl h, c⟩, e⟩
theorem StF.arm (hs : StF h0 F d x h) {n keep : Int} (hn : n ≤ 9223372036854775807) (hk : 0 ≤ keep ∧ keep < 18446744073709551616) :
    HC Try.prog 18 #[.pointer (some ⟨d, 0, none⟩), .int .i64 n, .int .u64 keep] h fun v h' => (StF h0 F d (Dk.arm x n keep) h' ∧ Upd (fun q => ¬ F q) h h') ∧ v = .tuple #[] := by
  obtain ⟨O, h1, h2, h3, h4⟩ := hs
  exact (arm_spec h1 hn hk).mono fun v h' ⟨a, c, e⟩ => ⟨StF.step h1 h2 h3 h4 ⟨O, a, fun q h => .inl h, c⟩, e⟩
theorem StF.sync (hs : StF h0 F d x h) {s : Str} (hw : x.waits.length ≤ 1073741824) :
    HC Try.prog 17 #[.pointer (some ⟨d, 0, none⟩), .string s] h fun v h' => (StF h0 F d (Dk.sync x s).2 h' ∧ Upd (fun q => ¬ F q) h h') ∧ v = .int .i64 (Dk.sync x s).1 := by
  obtain ⟨O, h1, h2, h3, h4⟩ := hs
  exact (sync_spec h1 hw).mono fun v h' ⟨O', a, b, c, e⟩ => ⟨StF.step h1 h2 h3 h4 ⟨O', a, b, c⟩, e⟩
theorem StF.cut (hs : StF h0 F d x h) {s : Str} {n : Int} (hw : x.waits.length ≤ 1073741824) (hn : n < 9223372036854775808) :
    HC Try.prog 24 #[.pointer (some ⟨d, 0, none⟩), .string s, .int .i64 n] h fun v h' => (StF h0 F d (Dk.cut x s n).2 h' ∧ Upd (fun q => ¬ F q) h h') ∧ v = .int .i64 (Dk.cut x s n).1 := by
  obtain ⟨O, h1, h2, h3, h4⟩ := hs
  exact (cut_spec h1 hw hn).mono fun v h' ⟨O', a, b, c, e⟩ => ⟨StF.step h1 h2 h3 h4 ⟨O', a, b, c⟩, e⟩
theorem StF.remove (hs : StF h0 F d x h) {s : Str} (hw : x.waits.length ≤ 1073741824) :
    HC Try.prog 25 #[.pointer (some ⟨d, 0, none⟩), .string s] h fun v h' => (StF h0 F d (Dk.remove x s).2 h' ∧ Upd (fun q => ¬ F q) h h') ∧ v = .int .i64 (Dk.remove x s).1 := by
  obtain ⟨O, h1, h2, h3, h4⟩ := hs
  exact (remove_spec h1 hw).mono fun v h' ⟨O', a, b, c, e⟩ => ⟨StF.step h1 h2 h3 h4 ⟨O', a, b, c⟩, e⟩
theorem StF.rename (hs : StF h0 F d x h) {s t : Str} (hw : x.waits.length ≤ 1073741824) :
    HC Try.prog 26 #[.pointer (some ⟨d, 0, none⟩), .string s, .string t] h fun v h' => (StF h0 F d (Dk.rename x s t).2 h' ∧ Upd (fun q => ¬ F q) h h') ∧ v = .int .i64 (Dk.rename x s t).1 := by
  obtain ⟨O, h1, h2, h3, h4⟩ := hs
  exact (rename_spec h1 hw).mono fun v h' ⟨O', a, b, c, e⟩ => ⟨StF.step h1 h2 h3 h4 ⟨O', a, b, c⟩, e⟩
theorem StF.count (hs : StF h0 F d x h) (s : Str) : HC Try.prog 21 #[.pointer (some ⟨d, 0, none⟩), .string s] h fun v h' => h' = h ∧ v = .int .i64 (Dk.count x s) := by
  obtain ⟨O, h1, _⟩ := hs; exact count_spec h1 s
theorem StF.has (hs : StF h0 F d x h) (s : Str) : HC Try.prog 23 #[.pointer (some ⟨d, 0, none⟩), .string s] h fun v h' => h' = h ∧ v = .bool (Dk.has x s) := by
  obtain ⟨O, h1, _⟩ := hs; exact has_spec h1 s
theorem StF.free (hs : StF h0 F d x h) : HC Try.prog 22 #[.pointer (some ⟨d, 0, none⟩)] h fun v h' => Keep h.size h h' ∧ v = .int .i64 (Dk.free x) := by
  obtain ⟨O, h1, _⟩ := hs
  exact free_spec h1
theorem StF.read (hs : StF h0 F d x h) (s : Str) (i : Int) : HC Try.prog 16 #[.pointer (some ⟨d, 0, none⟩), .string s, .int .i64 i] h
    fun v h' => Keep h.size h h' ∧ ∃ b m, v = .tuple #[.slice (if m = 0 then none else some ⟨b, 0, none⟩) m m, .int .i64 (Dk.read x s i).2] ∧ m = (Dk.read x s i).1.size ∧ h.size ≤ b ∧
        (m ≠ 0 → h'[b]? = some (.cells (((bytesL (Dk.read x s i).1).map fun b => Value.int .u8 (b.toNat : Nat))).toArray 96 (0, 0))) := by
  obtain ⟨O, h1, _⟩ := hs
  exact read_spec h1 s i
end
end Go.Proofs.Ytembbemljejjbaa
