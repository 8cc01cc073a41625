/-
  A disk that a law made, call by call. Conditions: none.
-/
import Derived.Test.YtembbemljejjbaaDkA4
import Derived.Test.YtembbemljejjbaaDk6
set_option linter.unusedVariables false
set_option linter.unusedSimpArgs false
set_option maxRecDepth 100000
namespace Go.Proofs.Ytembbemljejjbaa
open Go Go.Vc Go.Proofs Go.Dk

/-- a disk in blocks that are newer than h0, which stands. -/
def St (h0 : Heap) (d : Nat) (x : D) (h : Heap) : Prop := ∃ O, DiskAt h d x O ∧ (∀ q, O q → h0.size ≤ q) ∧ Keep h0.size h0 h
section
variable {h0 h h' : Heap} {d : Nat} {x x' : D}
theorem St.base (hs : St h0 d x h) : Keep h0.size h0 h := let ⟨_, _, _, k⟩ := hs; k
theorem St.keep (hs : St h0 d x h) (k : Keep h.size h h') : St h0 d x h' := let ⟨O, h1, h2, h3⟩ := hs; ⟨O, h1.keep k, h2, h3.trans (k.mono h3.size)⟩
theorem St.step {O : Nat → Prop} (h1 : DiskAt h d x O) (h2 : ∀ q, O q → h0.size ≤ q) (h3 : Keep h0.size h0 h) (r : ∃ O', DiskAt h' d x' O' ∧ (∀ q, O' q → O q ∨ h.size ≤ q) ∧ Upd O h h') : St h0 d x' h' := by
  obtain ⟨O', a, b, c⟩ := r
  exact ⟨O', a, fun q hq => (b q hq).elim (h2 q) fun e => Nat.le_trans h3.size e, h3.trans (c.keep h3.size h2)⟩
theorem St.new (k : Keep h0.size h0 h) (room : Int) : HC Try.prog 14 #[.int .i64 room] h fun v h' => ∃ d, v = .pointer (some ⟨d, 0, none⟩) ∧ St h0 d (new room) h' :=
  (new_spec h room).mono fun v h' ⟨k1, d, e, hd⟩ => ⟨d, e, _, hd, fun q hq => Nat.le_trans k.size hq.1, k.trans (k1.mono k.size)⟩
theorem St.write (hs : St h0 d x h) {s b : Str} {i : Int} {A : Option Addr} {n c : Nat} (hsl : Sl ByteE h A n (bytesL b)) (hA : ∀ O q, DiskAt h d x O → (∀ q, O q → h0.size ≤ q) → blk A q → ¬ O q) (hw : x.waits.length < 1073741824) :
    HC Try.prog 15 #[.pointer (some ⟨d, 0, none⟩), .string s, .int .i64 i, .slice A n c] h fun v h' => St h0 d (Dk.write x s i b).2 h' ∧ v = .int .i64 (Dk.write x s i b).1 := by
  obtain ⟨O, h1, h2, h3⟩ := hs
  exact (write_spec h1 hsl (fun q hq => hA O q h1 h2 hq) hw).mono fun v h' ⟨O', a, b, c, e⟩ => ⟨St.step h1 h2 h3 ⟨O', a, b, c⟩, e⟩
theorem St.off (hs : St h0 d x h) {keep : Int} (hk : 0 ≤ keep ∧ keep < 18446744073709551616) (hw : x.waits.length ≤ 1073741824) :
    HC Try.prog 19 #[.pointer (some ⟨d, 0, none⟩), .int .u64 keep] h fun v h' => St h0 d (Dk.off keep x) h' ∧ v = .tuple #[] := by
  obtain ⟨O, h1, h2, h3⟩ := hs
  exact (off_spec h1 hk hw).mono fun v h' ⟨O', a, b, c, e⟩ => ⟨St.step h1 h2 h3 ⟨O', a, b, c⟩, e⟩
theorem St.on (hs : St h0 d x h) : HC Try.prog 20 #[.pointer (some ⟨d, 0, none⟩)] h fun v h' => St h0 d (Dk.on x) h' ∧ v = .tuple #[] := by
  obtain ⟨O, h1, h2, h3⟩ := hs
  exact (on_spec h1).mono fun v h' ⟨a, c, e⟩ => ⟨St.step h1 h2 h3 ⟨O, a, fun q h => .inl h, c⟩, e⟩
theorem St.arm (hs : St h0 d x h) {n keep : Int} (hn : n ≤ 9223372036854775807) (hk : 0 ≤ keep ∧ keep < 18446744073709551616) :
    HC Try.prog 18 #[.pointer (some ⟨d, 0, none⟩), .int .i64 n, .int .u64 keep] h fun v h' => St h0 d (Dk.arm x n keep) h' ∧ v = .tuple #[] := by
  obtain ⟨O, h1, h2, h3⟩ := hs
  exact (arm_spec h1 hn hk).mono fun v h' ⟨a, c, e⟩ => ⟨St.step h1 h2 h3 ⟨O, a, fun q h => .inl h, c⟩, e⟩
theorem St.sync (hs : St h0 d x h) {s : Str} (hw : x.waits.length ≤ 1073741824) :
    HC Try.prog 17 #[.pointer (some ⟨d, 0, none⟩), .string s] h fun v h' => St h0 d (Dk.sync x s).2 h' ∧ v = .int .i64 (Dk.sync x s).1 := by
  obtain ⟨O, h1, h2, h3⟩ := hs
  exact (sync_spec h1 hw).mono fun v h' ⟨O', a, b, c, e⟩ => ⟨St.step h1 h2 h3 ⟨O', a, b, c⟩, e⟩
theorem St.cut (hs : St h0 d x h) {s : Str} {n : Int} (hw : x.waits.length ≤ 1073741824) (hn : n < 9223372036854775808) :
    HC Try.prog 24 #[.pointer (some ⟨d, 0, none⟩), .string s, .int .i64 n] h fun v h' => St h0 d (Dk.cut x s n).2 h' ∧ v = .int .i64 (Dk.cut x s n).1 := by
  obtain ⟨O, h1, h2, h3⟩ := hs
  exact (cut_spec h1 hw hn).mono fun v h' ⟨O', a, b, c, e⟩ => ⟨St.step h1 h2 h3 ⟨O', a, b, c⟩, e⟩
theorem St.remove (hs : St h0 d x h) {s : Str} (hw : x.waits.length ≤ 1073741824) :
    HC Try.prog 25 #[.pointer (some ⟨d, 0, none⟩), .string s] h fun v h' => St h0 d (Dk.remove x s).2 h' ∧ v = .int .i64 (Dk.remove x s).1 := by
  obtain ⟨O, h1, h2, h3⟩ := hs
  exact (remove_spec h1 hw).mono fun v h' ⟨O', a, b, c, e⟩ => ⟨St.step h1 h2 h3 ⟨O', a, b, c⟩, e⟩
theorem St.count (hs : St h0 d x h) (s : Str) : HC Try.prog 21 #[.pointer (some ⟨d, 0, none⟩), .string s] h fun v h' => h' = h ∧ v = .int .i64 (Dk.count x s) := by
  obtain ⟨O, h1, h2, h3⟩ := hs; exact count_spec h1 s
theorem St.has (hs : St h0 d x h) (s : Str) : HC Try.prog 23 #[.pointer (some ⟨d, 0, none⟩), .string s] h fun v h' => h' = h ∧ v = .bool (Dk.has x s) := by
  obtain ⟨O, h1, h2, h3⟩ := hs; exact has_spec h1 s
theorem St.free (hs : St h0 d x h) : HC Try.prog 22 #[.pointer (some ⟨d, 0, none⟩)] h fun v h' => St h0 d x h' ∧ v = .int .i64 (Dk.free x) := by
  have hs0 := hs
  obtain ⟨O, h1, h2, h3⟩ := hs
  exact (free_spec h1).mono fun v h' ⟨k, e⟩ => ⟨hs0.keep k, e⟩
theorem St.read (hs : St h0 d x h) (s : Str) (i : Int) : HC Try.prog 16 #[.pointer (some ⟨d, 0, none⟩), .string s, .int .i64 i] h
    fun v h' => St h0 d x h' ∧ Keep h.size h h' ∧ ∃ b m, v = .tuple #[.slice (if m = 0 then none else some ⟨b, 0, none⟩) m m, .int .i64 (Dk.read x s i).2] ∧ m = (Dk.read x s i).1.size ∧ h.size ≤ b ∧
        (m ≠ 0 → h'[b]? = some (.cells (((bytesL (Dk.read x s i).1).map fun b => Value.int .u8 (b.toNat : Nat))).toArray 96 (0, 0))) := by
  have hs0 := hs
  obtain ⟨O, h1, h2, h3⟩ := hs
  exact (read_spec h1 s i).mono fun v h' ⟨k, r⟩ => ⟨hs0.keep k, k, r⟩
/-- a write of a slice that is newer than the disk. -/
theorem St.write' (hs : St h0 d x h) (k : Keep h.size h h') {s b : Str} {i : Int} {A : Option Addr} {n c : Nat} (hsl : Sl ByteE h' A n (bytesL b)) (hA : ∀ q, blk A q → h.size ≤ q) (hw : x.waits.length < 1073741824) :
    HC Try.prog 15 #[.pointer (some ⟨d, 0, none⟩), .string s, .int .i64 i, .slice A n c] h' fun v h' => St h0 d (Dk.write x s i b).2 h' ∧ v = .int .i64 (Dk.write x s i b).1 := by
  obtain ⟨O, h1, h2, h3⟩ := hs
  exact (write_spec (h1.keep k) hsl (fun q hq hO => by have := hA q hq; have := h1.1 q hO; omega) hw).mono fun v h' ⟨O', a, b, c, e⟩ => ⟨St.step (h1.keep k) h2 (h3.trans (k.mono h3.size)) ⟨O', a, b, c⟩, e⟩
/-- a write of a slice that stands ahead of the disk. -/
theorem St.writeIn (hs : St h0 d x h) {s b : Str} {i : Int} {A : Option Addr} {n c : Nat} (hsl : Sl ByteE h0 A n (bytesL b)) (hw : x.waits.length < 1073741824) :
    HC Try.prog 15 #[.pointer (some ⟨d, 0, none⟩), .string s, .int .i64 i, .slice A n c] h fun v h' => St h0 d (Dk.write x s i b).2 h' ∧ v = .int .i64 (Dk.write x s i b).1 := by
  obtain ⟨O, h1, h2, h3⟩ := hs
  refine (write_spec0 h1 (hsl.keep h3) (fun hn q hq hO => ?_) hw).mono fun v h' ⟨O', a, b, c, e⟩ => ⟨St.step h1 h2 h3 ⟨O', a, b, c⟩, e⟩
  have hlen := hsl.1
  obtain ⟨p, hp, hc⟩ := hsl.get (i := 0) (List.getElem?_eq_getElem (by omega))
  obtain ⟨p', e, hq'⟩ := hq
  rw [hp] at e
  cases e
  have h4 := cell_lt (hc 0 _ rfl)
  rw [Addr.add_block, hq'] at h4
  have := h2 q hO
  omega
/-- a block that was just laid is none of the disk's. -/
theorem fresh_blk {B : Nat} (hB : h.size ≤ B) : ∀ O q, DiskAt h d x O → (∀ q, O q → h0.size ≤ q) → blk (some (⟨B, 0, none⟩ : Addr)) q → ¬ O q := fun O q hd _ hq hO => by
  obtain ⟨a, e, eq⟩ := hq
  cases e
  have h1 := hd.1 q hO
  have h2 : B = q := eq
  omega
end

/-- a literal slice of one byte. -/
theorem svc_one {h : Heap} {n : Int} {K : Value → Heap → Prop} (k : ∀ b h', Keep h.size h h' → Sl ByteE h' (some ⟨h.size, 0, none⟩) 1 (bytesL ⟨#[b]⟩) → K (.slice (some ⟨h.size, 0, none⟩) 1 1) h') :
    SVC Try.prog (Instr.buildSlice 22 1 (Array.mk [(0, Value.int IntKind.u8 (IntKind.u8.wrap n))])) h K := by
  have hb : ∃ b : UInt8, IntKind.u8.wrap n = (b.toNat : Nat) := by
    have : IntKind.u8.wrap n = n % 256 := by simp [IntKind.wrap, IntKind.signed, IntKind.bits]
    refine ⟨UInt8.ofNat (n % 256).toNat, ?_⟩
    rw [this, UInt8.toNat_ofNat']
    omega
  obtain ⟨b, hb⟩ := hb
  rw [hb]
  exact svc_buildSlice (bs_byte b) (k b _ (keep_push _ _) (sl_bytes (push_at h (.cells ([b].flatMap ByteE.enc).toArray 5 (0, 0)))))
end Go.Proofs.Ytembbemljejjbaa
