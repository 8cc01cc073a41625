/-
  Texts of this seat, laid one behind the other: PgD PgP PgL. Conditions: none.
-/
import Derived.Test.YthkhaobmhheoaaaGreatZD
import Derived.Test.YthkhaobmhheoaaaGreatZDN
import Derived.Test.YthkhaobmhheoaaaGreatZV
import Derived.Test.YthkhaobmhheoaaaGreatZPN
import Derived.Test.YthkhaobmhheoaaaGreatZP
import Derived.Test.YthkhaobmhheoaaaGreatZH
section
set_option linter.unusedVariables false
set_option linter.unusedSimpArgs false
set_option maxRecDepth 100000
namespace Go.Proofs.YthkhaobmhheoaaaGreat
open Go Go.Vc Go.Proofs Go.Dk

section
variable {h h' : Heap} {d : Nat} {x x' : D} {S O N N' : Nat → Prop}
theorem SideAt.updM {c p : Nat} {F : Fs} (hs : SideAt h c p F) (u : UpdM S h h') (hc : ¬ S c) (hp : ¬ S p) : SideAt h' c p F := by
  obtain ⟨mc, mp, h1, h2, h3⟩ := hs
  exact ⟨mc, mp, h1.updM u hc, h2.updM u hp, h3⟩
theorem DiskAt.updM (hd : DiskAt h d x O) (u : UpdM S h h') (hs : ∀ b, O b → ¬ S b) : DiskAt h' d x O := by
  obtain ⟨hO, c1, p1, c2, p2, A, n, c, hp, hb⟩ := hd
  have hs' : ∀ b, blks d c1 p1 c2 p2 A b → ¬ S b := fun b h0 => hs b (hb b h0)
  exact ⟨fun b h0 => Nat.lt_of_lt_of_le (hO b h0) u.size, c1, p1, c2, p2, A, n, c,
    ⟨u.cells hp.box (hs' d (.inl rfl)), hp.now.updM u (hs' _ (.inr (.inl rfl))) (hs' _ (.inr (.inr (.inl rfl)))), hp.safe.updM u (hs' _ (.inr (.inr (.inr (.inl rfl))))) (hs' _ (.inr (.inr (.inr (.inr (.inl rfl)))))),
      hp.waits.updM u (fun b hb => hs' b (.inr (.inr (.inr (.inr (.inr hb)))))), hp.nd, hp.ok⟩, hb⟩
/-- a disk none of whose blocks is of N. -/
def DN (N : Nat → Prop) (d : Nat) (x : D) (h : Heap) : Prop := ∃ O, DiskAt h d x O ∧ (∀ q, O q → ¬ N q) ∧ ∀ q, N q → q < h.size
/-- what a call of the disk leaves: the disk, and all of N. -/
structure Stp (N : Nat → Prop) (d : Nat) (x' : D) (h h' : Heap) : Prop where
  dn : DN N d x' h'
  up : UpdM (fun q => ¬ N q) h h'
theorem DN.ok (hs : DN N d x h) : Ok x := let ⟨_, a, _⟩ := hs; a.ok
theorem DN.lt (hs : DN N d x h) {q : Nat} (hq : N q) : q < h.size := let ⟨_, _, _, f⟩ := hs; f q hq
theorem DN.box (hs : DN N d x h) : ¬ N d ∧ d < h.size := let ⟨_, a, b, _⟩ := hs; ⟨b d a.box, a.1 d a.box⟩
/-- other things have turned, or are new. -/
theorem DN.own (hs : DN N d x h) (u : UpdM S h h') (hS : ∀ q, q < h.size → S q → N q) (hg : ∀ q, N' q → (N q ∨ h.size ≤ q) ∧ q < h'.size) : DN N' d x h' := by
  obtain ⟨O, a, b, f⟩ := hs
  refine ⟨O, a.updM u fun q hq hs => b q hq (hS q (a.1 q hq) hs), fun q hq hN => ?_, fun q hq => (hg q hq).2⟩
  rcases (hg q hN).1 with h1 | h1
  · exact b q hq h1
  · have := a.1 q hq; omega
theorem DN.keepM (hs : DN N d x h) (u : UpdM S h h') (hS : ∀ q, q < h.size → S q → N q) : DN N d x h' := hs.own u hS fun q hq => ⟨.inl hq, Nat.lt_of_lt_of_le (hs.lt hq) u.size⟩
theorem DN.keep (hs : DN N d x h) (k : Keep h.size h h') : DN N d x h' := hs.keepM (S := fun _ => False) k.m fun _ _ h => h.elim
theorem DN.turn (hs : DN N d x h) (t : Turn h h') : DN N d x h' := hs.keepM (S := fun _ => False) t.m fun _ _ h => h.elim
theorem DN.sub (hs : DN N d x h) (hg : ∀ q, N' q → N q) : DN N' d x h := hs.own (UpdM.refl (fun _ => False) _) (fun _ _ h => h.elim) fun q hq => ⟨.inl (hg q hq), hs.lt (hg q hq)⟩
theorem StF.dn {h0 : Heap} {F : Nat → Prop} (hs : StF h0 F d x h) : DN (fun q => q < h0.size ∨ F q) d x h := by
  obtain ⟨O, a, b, k, f⟩ := hs
  exact ⟨O, a, fun q hq hN => hN.elim (fun h1 => by have := (b q hq).1; omega) (b q hq).2, fun q hq => hq.elim (fun h1 => Nat.lt_of_lt_of_le h1 k.size) fun h1 => (f q h1).2⟩
theorem DN.step (h1 : DiskAt h d x O) (h2 : ∀ q, O q → ¬ N q) (h3 : ∀ q, N q → q < h.size)
    (r : ∃ O', DiskAt h' d x' O' ∧ (∀ q, O' q → O q ∨ h.size ≤ q) ∧ Upd O h h') : Stp N d x' h h' := by
  obtain ⟨O', a, b, c⟩ := r
  refine ⟨⟨O', a, fun q hq hN => ?_, fun q hq => Nat.lt_of_lt_of_le (h3 q hq) c.size⟩, c.m.mono h2⟩
  rcases b q hq with h5 | h5
  · exact h2 q h5 hN
  · have := h3 q hN; omega
theorem DN.write (hs : DN N d x h) {s b : Str} {i : Int} {A : Option Addr} {n c : Nat} (hsl : Sl ByteE h A n (bytesL b)) (hA : n ≠ 0 → ∀ q, blk A q → N q) (hw : x.waits.length < 1073741824) :
    HC Tryz.prog 17 #[.pointer (some ⟨d, 0, none⟩), .string s, .int .i64 i, .slice A n c] h fun v h' => Stp N d (Dk.write x s i b).2 h h' ∧ v = .int .i64 (Dk.write x s i b).1 := by
  obtain ⟨O, h1, h2, h3⟩ := hs
  exact (write_spec0 h1 hsl (fun hn q hq hO => h2 q hO (hA hn q hq)) hw).mono fun v h' ⟨O', a, b, c, e⟩ => ⟨DN.step h1 h2 h3 ⟨O', a, b, c⟩, e⟩
theorem DN.off (hs : DN N d x h) {keep : Int} (hk : 0 ≤ keep ∧ keep < 18446744073709551616) (hw : x.waits.length ≤ 1073741824) :
    HC Tryz.prog 31 #[.pointer (some ⟨d, 0, none⟩), .int .u64 keep] h fun v h' => Stp N d (Dk.off keep x) h h' ∧ v = .tuple #[] := by
  obtain ⟨O, h1, h2, h3⟩ := hs
  exact (off_spec h1 hk hw).mono fun v h' ⟨O', a, b, c, e⟩ => ⟨DN.step h1 h2 h3 ⟨O', a, b, c⟩, e⟩
theorem DN.on (hs : DN N d x h) : HC Tryz.prog 29 #[.pointer (some ⟨d, 0, none⟩)] h fun v h' => Stp N d (Dk.on x) h h' ∧ v = .tuple #[] := by
  obtain ⟨O, h1, h2, h3⟩ := hs
  exact (on_spec h1).mono fun v h' ⟨a, c, e⟩ => ⟨DN.step h1 h2 h3 ⟨O, a, fun q h => .inl h, c⟩, e⟩
theorem DN.arm (hs : DN N d x h) {n keep : Int} (hn : n ≤ 9223372036854775807) (hk : 0 ≤ keep ∧ keep < 18446744073709551616) :
    HC Tryz.prog 25 #[.pointer (some ⟨d, 0, none⟩), .int .i64 n, .int .u64 keep] h fun v h' => Stp N d (Dk.arm x n keep) h h' ∧ v = .tuple #[] := by
  obtain ⟨O, h1, h2, h3⟩ := hs
  exact (arm_spec h1 hn hk).mono fun v h' ⟨a, c, e⟩ => ⟨DN.step h1 h2 h3 ⟨O, a, fun q h => .inl h, c⟩, e⟩
theorem DN.sync (hs : DN N d x h) {s : Str} (hw : x.waits.length ≤ 1073741824) :
    HC Tryz.prog 71 #[.pointer (some ⟨d, 0, none⟩), .string s] h fun v h' => Stp N d (Dk.sync x s).2 h h' ∧ v = .int .i64 (Dk.sync x s).1 := by
  obtain ⟨O, h1, h2, h3⟩ := hs
  exact (sync_spec h1 hw).mono fun v h' ⟨O', a, b, c, e⟩ => ⟨DN.step h1 h2 h3 ⟨O', a, b, c⟩, e⟩
theorem DN.remove (hs : DN N d x h) {s : Str} (hw : x.waits.length ≤ 1073741824) :
    HC Tryz.prog 58 #[.pointer (some ⟨d, 0, none⟩), .string s] h fun v h' => Stp N d (Dk.remove x s).2 h h' ∧ v = .int .i64 (Dk.remove x s).1 := by
  obtain ⟨O, h1, h2, h3⟩ := hs
  exact (remove_spec h1 hw).mono fun v h' ⟨O', a, b, c, e⟩ => ⟨DN.step h1 h2 h3 ⟨O', a, b, c⟩, e⟩
theorem DN.rename (hs : DN N d x h) {s t : Str} (hw : x.waits.length ≤ 1073741824) :
    HC Tryz.prog 72 #[.pointer (some ⟨d, 0, none⟩), .string s, .string t] h fun v h' => Stp N d (Dk.rename x s t).2 h h' ∧ v = .int .i64 (Dk.rename x s t).1 := by
  obtain ⟨O, h1, h2, h3⟩ := hs
  exact (rename_spec h1 hw).mono fun v h' ⟨O', a, b, c, e⟩ => ⟨DN.step h1 h2 h3 ⟨O', a, b, c⟩, e⟩
theorem DN.count (hs : DN N d x h) (s : Str) : HC Tryz.prog 74 #[.pointer (some ⟨d, 0, none⟩), .string s] h fun v h' => h' = h ∧ v = .int .i64 (Dk.count x s) := by
  obtain ⟨O, h1, _⟩ := hs; exact count_spec h1 s
theorem DN.has (hs : DN N d x h) (s : Str) : HC Tryz.prog 56 #[.pointer (some ⟨d, 0, none⟩), .string s] h fun v h' => h' = h ∧ v = .bool (Dk.has x s) := by
  obtain ⟨O, h1, _⟩ := hs; exact has_spec h1 s
theorem DN.free (hs : DN N d x h) : HC Tryz.prog 24 #[.pointer (some ⟨d, 0, none⟩)] h fun v h' => Keep h.size h h' ∧ v = .int .i64 (Dk.free x) := by
  obtain ⟨O, h1, _⟩ := hs
  exact free_spec h1
theorem DN.read (hs : DN N d x h) (s : Str) (i : Int) : HC Tryz.prog 94 #[.pointer (some ⟨d, 0, none⟩), .string s, .int .i64 i] h
    fun v h' => Keep h.size h h' ∧ ∃ b m, v = .tuple #[.slice (if m = 0 then none else some ⟨b, 0, none⟩) m m, .int .i64 (Dk.read x s i).2] ∧ m = (Dk.read x s i).1.size ∧ h.size ≤ b ∧
        (m ≠ 0 → h'[b]? = some (.cells (((bytesL (Dk.read x s i).1).map fun b => Value.int .u8 (b.toNat : Nat))).toArray 103 (0, 0))) := by
  obtain ⟨O, h1, _⟩ := hs
  exact read_spec h1 s i
theorem DN.acts (hs : DN N d x h) : HC Tryz.prog 46 #[.pointer (some ⟨d, 0, none⟩)] h fun v h' => h' = h ∧ v = .int .i64 x.acts := by
  obtain ⟨O, hd, _⟩ := hs
  obtain ⟨hO, c1, p1, c2, p2, A, n, c, hp, hb⟩ := hd
  refine HC_of_vc (args := [.pointer (some ⟨d, 0, none⟩)]) (base := 9) (cuts := []) (bigs := []) hm Tryz.func46 ?_
  rw [vcActs]
  exact ⟨_, reads_eql_nil undD, br_intro (fun e => by cases e) fun _ => ⟨_, rfl, _, reads_load scI (hp.rd rfl), rfl, rfl⟩⟩
theorem DN.down (hs : DN N d x h) : HC Tryz.prog 28 #[.pointer (some ⟨d, 0, none⟩)] h fun v h' => h' = h ∧ v = .bool x.down := by
  obtain ⟨O, hd, _⟩ := hs
  obtain ⟨hO, c1, p1, c2, p2, A, n, c, hp, hb⟩ := hd
  refine HC_of_vc (args := [.pointer (some ⟨d, 0, none⟩)]) (base := 11) (cuts := []) (bigs := []) hm Tryz.func28 ?_
  rw [vcDown]
  exact ⟨_, reads_neq_nil undD, _, fun _ => rfl, _, fun _ => reads_load scB (hp.rd rfl), rfl, rfl⟩
end
end Go.Proofs.YthkhaobmhheoaaaGreat
end

section
set_option linter.unusedVariables false
set_option linter.unusedSimpArgs false
set_option maxRecDepth 100000
namespace Go.Proofs.YthkhaobmhheoaaaGreat
open Go Go.Vc Go.Proofs Go.Dk
open Go.Pg (SrtI)

theorem scDp : scT Tryz.prog 32 = true := by kernel_rfl
theorem scPp : scT Tryz.prog 36 = true := by kernel_rfl
theorem undPp : Tryz.prog.underlying 36 = some (.pointer (Tryz.prog.pointee 36)) := by kernel_rfl
/-- a pager on a heap. -/
structure PagerAt (h : Heap) (p d : Nat) (nm : Str) : Prop where
  at_ : h[p]? = some (.cells #[.pointer (some ⟨d, 0, none⟩), .string nm] 108 (0, 0))
  size : nm.size ≤ 1073741824
section
variable {h h' : Heap} {p d : Nat} {nm : Str} {N S : Nat → Prop} {x : D}
theorem PagerAt.updM (hp : PagerAt h p d nm) (u : UpdM S h h') (hs : ¬ S p) : PagerAt h' p d nm := ⟨u.cells hp.at_ hs, hp.size⟩
theorem PagerAt.keep (hp : PagerAt h p d nm) (k : Keep h.size h h') : PagerAt h' p d nm := hp.updM (S := fun _ => False) k.m id
theorem PagerAt.lt (hp : PagerAt h p d nm) : p < h.size := at_lt hp.at_
theorem PagerAt.rd (hp : PagerAt h p d nm) : Reads Tryz.prog (Instr.loadAt 32 (.pointer (some ⟨p, 0, none⟩))) h (.pointer (some ⟨d, 0, none⟩)) := reads_load scDp (cell_cells0 hp.at_ rfl)
theorem PagerAt.rn (hp : PagerAt h p d nm) : Reads Tryz.prog (Instr.loadAt 9 (.pointer (some ((⟨p, 0, none⟩ : Addr).add 1)))) h (.string nm) := reads_load scS (cell_cells hp.at_ rfl)
theorem draft_spec (hp : PagerAt h p d nm) : HC Tryz.prog 57 #[.pointer (some ⟨p, 0, none⟩)] h fun v h' => h' = h ∧ v = .string (Pg.nmT nm) := by
  refine HC_of_vc (args := [.pointer (some ⟨p, 0, none⟩)]) (base := 8) (cuts := []) (bigs := []) hm Tryz.func57 ?_
  rw [vcDraft]
  have := hp.size
  exact ⟨_, rfl, _, hp.rn, by simp [IntKind.max, IntKind.signed, IntKind.bits]; omega, rfl, rfl⟩
theorem journal_spec (hp : PagerAt h p d nm) : HC Tryz.prog 59 #[.pointer (some ⟨p, 0, none⟩)] h fun v h' => h' = h ∧ v = .string (Pg.nmJ nm) := by
  refine HC_of_vc (args := [.pointer (some ⟨p, 0, none⟩)]) (base := 8) (cuts := []) (bigs := []) hm Tryz.func59 ?_
  rw [vcJournal]
  have := hp.size
  exact ⟨_, rfl, _, hp.rn, by simp [IntKind.max, IntKind.signed, IntKind.bits]; omega, rfl, rfl⟩
theorem pcount_spec (hp : PagerAt h p d nm) (hd : DN N d x h) : HC Tryz.prog 30 #[.pointer (some ⟨p, 0, none⟩)] h fun v h' => h' = h ∧ v = .int .i64 (Dk.count x nm) := by
  refine HC_of_vc (args := [.pointer (some ⟨p, 0, none⟩)]) (base := 14) (cuts := []) (bigs := []) hm Tryz.func30 ?_
  rw [vcPCount]
  refine ⟨_, reads_eql_nil undPp, br_intro (fun e => by cases e) fun _ => ⟨_, rfl, _, hp.rd, _, rfl, _, hp.rn, (hd.count nm).mono ?_⟩⟩
  rintro v h1 ⟨rfl, rfl⟩
  exact ⟨_, rfl, rfl, rfl⟩
theorem pread_spec (hp : PagerAt h p d nm) (hd : DN N d x h) (i : Int) : HC Tryz.prog 61 #[.pointer (some ⟨p, 0, none⟩), .int .i64 i] h
    fun v h' => Keep h.size h h' ∧ ∃ b m, v = .tuple #[.slice (if m = 0 then none else some ⟨b, 0, none⟩) m m, .int .i64 (Dk.read x nm i).2] ∧ m = (Dk.read x nm i).1.size ∧ h.size ≤ b ∧
        (m ≠ 0 → h'[b]? = some (.cells (((bytesL (Dk.read x nm i).1).map fun b => Value.int .u8 (b.toNat : Nat))).toArray 103 (0, 0))) := by
  refine HC_of_vc (args := [.pointer (some ⟨p, 0, none⟩), .int .i64 i]) (base := 20) (cuts := []) (bigs := []) hm Tryz.func61 ?_
  rw [vcPRead]
  refine ⟨_, reads_eql_nil undPp, br_intro (fun e => by cases e) fun _ => ⟨_, rfl, _, hp.rd, _, rfl, _, hp.rn, (hd.read nm i).mono ?_⟩⟩
  rintro v h1 ⟨k1, b, m, rfl, r⟩
  exact ⟨_, _, _, _, rfl, k1, b, m, rfl, r⟩

/-- bytes that a map holds: they stand, in blocks of N. -/
structure BvOk (N : Nat → Prop) (h : Heap) (v : Bv) : Prop where
  sl : Sl ByteE h v.a v.n (bytesL v.s)
  cap : v.n ≤ v.c
  blk : v.n ≠ 0 → ∀ q, blk v.a q → N q
theorem bytesL_len (s : Str) : (bytesL s).length = s.size := by show s.data.toList.length = s.data.size; rw [Array.length_toList]
theorem BvOk.len {v : Bv} (hv : BvOk N h v) : v.n = v.s.size := by have := hv.sl.1; rw [bytesL_len] at this; exact this.symm
theorem BvOk.updM {v : Bv} (hv : BvOk N h v) (u : UpdM S h h') (hs : ∀ q, N q → ¬ S q) : BvOk N h' v := ⟨hv.sl.updM u fun hn q hq => hs q (hv.blk hn q hq), hv.cap, hv.blk⟩
/-- a map of pages on a heap, in blocks of N. -/
structure PgsAt (N : Nat → Prop) (h : Heap) (r : Nat) (ml : List (Int × Bv)) : Prop where
  map : MapAt Mi h r ml
  n : N r
  each : ∀ q ∈ ml, BvOk N h q.2
  keys : ∀ k ∈ mKeys ml, I64 k
  len : ml.length ≤ 1000000
theorem PgsAt.updM {r : Nat} {ml : List (Int × Bv)} (hr : PgsAt N h r ml) (u : UpdM S h h') (hs : ∀ q, N q → ¬ S q) : PgsAt N h' r ml :=
  ⟨hr.map.updM u (hs r hr.n), hr.n, fun q hq => (hr.each q hq).updM u hs, hr.keys, hr.len⟩
theorem PgsAt.keep {r : Nat} {ml : List (Int × Bv)} (hr : PgsAt N h r ml) (k : Keep h.size h h') : PgsAt N h' r ml := hr.updM (S := fun _ => False) k.m fun _ _ => id
/-- its pages by rising numbers. -/
structure Rows (ml : List (Int × Bv)) (W : Pg.Rw) : Prop where
  perm : W.Perm (ml.map fun q => (q.1, q.2.s))
  srt : SrtI (W.map (·.1))
theorem Rows.len {ml : List (Int × Bv)} {W : Pg.Rw} (hW : Rows ml W) : W.length = ml.length := by have := hW.perm.length_eq; simpa using this
theorem perm_any {α : Type} {l m : List α} (hp : l.Perm m) (f : α → Bool) : l.any f = m.any f := by
  rw [Bool.eq_iff_iff, List.any_eq_true, List.any_eq_true]
  exact ⟨fun ⟨a, h1, h2⟩ => ⟨a, hp.mem_iff.1 h1, h2⟩, fun ⟨a, h1, h2⟩ => ⟨a, hp.mem_iff.2 h1, h2⟩⟩
theorem may_perm {c : Nat} {l m : Pg.Rw} (hp : l.Perm m) : Pg.may c l = Pg.may c m := by
  have hf : Pg.fresh c l = Pg.fresh c m := (hp.filter _).length_eq
  unfold Pg.may
  rw [perm_any hp, perm_any hp, hf]
abbrev rw0 (ml : List (Int × Bv)) : Pg.Rw := ml.map fun q => (q.1, q.2.s)
theorem rw0_erase (l : List (Int × Bv)) (j : Nat) : (rw0 l).eraseIdx j = rw0 (l.eraseIdx j) := (map_erase _ _ _).symm
theorem fresh_erase (c : Nat) : ∀ (l : List (Int × Bv)) (j : Nat) (q : Int × Bv), l[j]? = some q → Pg.fresh c (rw0 l) = Pg.fresh c (rw0 (l.eraseIdx j)) + if (c : Int) ≤ q.1 then 1 else 0
  | [], _, _, h => by simp at h
  | a :: l, 0, q, h => by
    cases h
    unfold Pg.fresh
    by_cases h1 : (c : Int) ≤ a.1 <;> simp [h1]
  | a :: l, j + 1, q, h => by
    have ih := fresh_erase c l j q h
    unfold Pg.fresh at ih ⊢
    simp only [List.eraseIdx, rw0, List.map_cons, List.filter_cons] at ih ⊢
    split <;> simp_all <;> omega
theorem any_erase {α : Type} (f : α → Bool) : ∀ (l : List α) (j : Nat) (q : α), l[j]? = some q → l.any f = (f q || (l.eraseIdx j).any f)
  | [], _, _, h => by simp at h
  | a :: l, 0, q, h => by cases h; rfl
  | a :: l, j + 1, q, h => by
    have ih := any_erase f l j q h
    simp only [List.eraseIdx, List.any_cons, ih]
    cases f a <;> cases f q <;> rfl
theorem fresh_le (c : Nat) (l : Pg.Rw) : Pg.fresh c l ≤ l.length := List.length_filter_le _ _

set_option maxHeartbeats 1000000 in
theorem may_spec {r : Nat} {ml : List (Int × Bv)} (hp : PagerAt h p d nm) (hd : DN N d x h) (hr : PgsAt N h r ml) :
    HC Tryz.prog 64 #[.pointer (some ⟨p, 0, none⟩), .map (some r)] h fun v h' => Keep h.size h h' ∧ v = .tuple #[.int .i64 (Pg.may (Dk.count x nm) (rw0 ml)).1, .int .i64 (Pg.may (Dk.count x nm) (rw0 ml)).2] := by
  refine HC_of_vc (args := [.pointer (some ⟨p, 0, none⟩), .map (some r)]) (base := 44) (cuts := []) (bigs := []) hm Tryz.func64 ?_
  rw [vcMay]
  have hcnt := Pg.count_le hd.ok nm
  have hlen := hr.len
  have hmlt := hr.map.lt
  refine (pcount_spec hp hd).mono ?_
  rintro v h1 ⟨rfl, rfl⟩
  generalize Dk.count x nm = c at hcnt ⊢
  have hfl := fresh_le c (rw0 ml)
  rw [List.length_map] at hfl
  have hbl : ∀ q ∈ ml, ((q.2.n : Int) > 512) = (512 < q.2.s.size) := fun q hq => by rw [(hr.each q hq).len]; exact propext ⟨fun h => by omega, fun h => by omega⟩
  refine ⟨_, rfl, svc_range (M := Mi) hr.map fun h4 k4 s4 i4 => ⟨_, rfl, fun n8 n9 n10 H => ∃ left cur, IterAt Mi H h1.size r ml left cur ∧ Keep h1.size h1 H ∧ (∀ q ∈ left, q ∈ ml) ∧
      n10 = ((Pg.fresh c (rw0 ml) : Nat) : Int) - (Pg.fresh c (rw0 left) : Nat) ∧ Pg.fresh c (rw0 left) ≤ Pg.fresh c (rw0 ml) ∧ (rw0 ml).any (fun p => decide (512 < p.2.size)) = (rw0 left).any fun p => decide (512 < p.2.size),
    fun _ _ _ H => leftN H h1.size, ⟨ml, none, i4, k4, fun _ h => h, by omega, Nat.le_refl _, rfl⟩, ?_⟩⟩
  rintro n8 n9 n10 H ⟨left, cur, hit, kH, hsub, rfl, hle, hany⟩
  refine svc_next hit (fun h0 => .inl ⟨rfl, ?_⟩) fun j q h13 hj u13 s13 i13 => .inr ⟨_, _, rfl, ?_⟩
  · subst h0
    have hany0 : (rw0 ml).any (fun p => decide (512 < p.2.size)) = false := hany
    have hz : ((Pg.fresh c (rw0 ml) : Nat) : Int) - (Pg.fresh c (rw0 ([] : List (Int × Bv))) : Nat) = (Pg.fresh c (rw0 ml) : Nat) := by show _ - ((0 : Nat) : Int) = _; omega
    rw [hz]
    refine svc_range (M := Mi) (hit.map) fun h15 k15 s15 i15 => ⟨_, rfl, fun n19 n20 G => ∃ left cur, IterAt Mi G H.size r ml left cur ∧ Keep h1.size h1 G ∧
        (rw0 ml).any (fun p => decide (p.1 < 0) || decide (p.1 ≥ (c : Int) + Pg.fresh c (rw0 ml))) = (rw0 left).any fun p => decide (p.1 < 0) || decide (p.1 ≥ (c : Int) + Pg.fresh c (rw0 ml)),
      fun _ _ G => leftN G H.size, ⟨ml, none, i15, kH.trans (k15.mono kH.size), rfl⟩, ?_⟩
    rintro n19 n20 G ⟨left, cur, hit, kG, hbad⟩
    refine svc_next hit (fun h0 => .inl ⟨rfl, ?_⟩) fun j q h23 hj u23 s23 i23 => .inr ⟨_, _, rfl, _, _, reads_entry i23, ?_⟩
    · subst h0
      have hbad0 : (rw0 ml).any (fun p => decide (p.1 < 0) || decide (p.1 ≥ (c : Int) + Pg.fresh c (rw0 ml))) = false := hbad
      refine ⟨kG, ?_⟩
      unfold Pg.may
      rw [hany0, hbad0]
      rfl
    · have kG' : Keep h1.size h1 h23 := kG.trans ⟨by omega, fun b hb => u23.block b (by have := kG.size; omega) (by have := kH.size; omega)⟩
      have hw : IntKind.i64.wrap ((c : Int) + (Pg.fresh c (rw0 ml) : Nat)) = (c : Int) + (Pg.fresh c (rw0 ml) : Nat) := wrap_i64 (by omega) (by omega)
      rw [hw]
      have hae := any_erase (fun p : Int × Str => decide (p.1 < 0) || decide (p.1 ≥ (c : Int) + Pg.fresh c (rw0 ml))) (rw0 left) j (q.1, q.2.s) (by rw [List.getElem?_map, hj]; rfl)
      rw [rw0_erase] at hae
      refine br_intro (fun e => ⟨kG', ?_⟩) fun e => ?_
      · unfold Pg.may
        rw [hany0, hbad, hae]
        simp only [e, Bool.true_or, if_true, Bool.false_eq_true, if_false]
      · refine ⟨⟨left.eraseIdx j, some q, i23, kG', ?_⟩, ?_⟩
        · rw [hbad, hae]
          simp only [e, Bool.false_or]
        · dsimp only
          rw [i23.leftN, hit.leftN, List.length_eraseIdx]
          have := (List.getElem?_eq_some_iff.1 hj).1
          rw [if_pos this]; omega
  · have kH' : Keep h1.size h1 h13 := kH.trans ⟨by omega, fun b hb => u13.block b (by have := kH.size; omega) (by omega)⟩
    have hq := hsub q (List.mem_of_getElem? hj)
    have hae := any_erase (fun p : Int × Str => decide (512 < p.2.size)) (rw0 left) j (q.1, q.2.s) (by rw [List.getElem?_map, hj]; rfl)
    have hfe := fresh_erase c left j q hj
    have hms : leftN h13 h1.size < leftN H h1.size := by
      rw [i13.leftN, hit.leftN, List.length_eraseIdx]
      have := (List.getElem?_eq_some_iff.1 hj).1
      rw [if_pos this]; omega
    refine ⟨_, _, _, _, reads_entry i13, br_intro (fun e => ⟨kH', ?_⟩) fun e => ?_⟩
    · have e := of_decide_eq_true e
      rw [hbl q hq] at e
      unfold Pg.may
      rw [hany, hae]
      simp [e]
    · have e := of_decide_eq_false e
      rw [hbl q hq] at e
      have hany' : (rw0 ml).any (fun p => decide (512 < p.2.size)) = (rw0 (left.eraseIdx j)).any fun p => decide (512 < p.2.size) := by
        rw [hany, hae, rw0_erase]; simp [e]
      refine br_intro (fun e2 => ?_) fun e2 => ?_
      · have e2 := of_decide_eq_true e2
        have e2 : (c : Int) ≤ q.1 := e2
        rw [if_pos e2] at hfe
        exact ⟨⟨left.eraseIdx j, some q, i13, kH', fun a ha => hsub a (List.mem_of_mem_eraseIdx ha), by rw [wrap_i64 (by omega) (by omega)]; omega, by omega, hany'⟩, hms⟩
      · have e2 := of_decide_eq_false e2
        have e2 : ¬ (c : Int) ≤ q.1 := e2
        rw [if_neg e2] at hfe
        exact ⟨⟨left.eraseIdx j, some q, i13, kH', fun a ha => hsub a (List.mem_of_mem_eraseIdx ha), by omega, by omega, hany'⟩, hms⟩
end
end Go.Proofs.YthkhaobmhheoaaaGreat
end

section
set_option linter.unusedVariables false
set_option linter.unusedSimpArgs false
set_option maxRecDepth 100000
namespace Go.Proofs.YthkhaobmhheoaaaGreat
open Go Go.Vc Go.Proofs Go.Dk
open Go.Pg (SrtI)

theorem layW_cons (n : Str) (p : Int × Str) (l : Pg.Rw) (x : D) : Pg.layW n (p :: l) x = if (write x n p.1 p.2).1 ≠ 0 then write x n p.1 p.2 else Pg.layW n l (write x n p.1 p.2).2 := rfl
theorem layW_app (n : Str) : ∀ (A B : Pg.Rw) (x : D), Pg.layW n (A ++ B) x = if (Pg.layW n A x).1 ≠ 0 then Pg.layW n A x else Pg.layW n B (Pg.layW n A x).2
  | [], B, x => by simp [Pg.layW]
  | p :: A, B, x => by
    rw [List.cons_append, layW_cons, layW_cons]
    by_cases h : (write x n p.1 p.2).1 ≠ 0
    · rw [if_pos h, if_pos h, if_pos h]
    · rw [if_neg h, if_neg h]; exact layW_app n A B _
theorem take_row {W : Pg.Rw} {k : Nat} {q : Int × Str} (hq : W[k]? = some q) : W.take (k + 1) = W.take k ++ [q] := by
  obtain ⟨hlt, e⟩ := List.getElem?_eq_some_iff.1 hq
  rw [List.take_succ_eq_append_getElem hlt, e]
theorem layW_next {n : Str} {W : Pg.Rw} {x : D} {k : Nat} {q : Int × Str} (h0 : (Pg.layW n (W.take k) x).1 = 0) (hq : W[k]? = some q) :
    (¬ (write (Pg.layW n (W.take k) x).2 n q.1 q.2).1 ≠ 0 → Pg.layW n (W.take (k + 1)) x = (0, (write (Pg.layW n (W.take k) x).2 n q.1 q.2).2)) ∧
    ((write (Pg.layW n (W.take k) x).2 n q.1 q.2).1 ≠ 0 → Pg.layW n W x = write (Pg.layW n (W.take k) x).2 n q.1 q.2) := by
  have e0 : ¬ (Pg.layW n (W.take k) x).1 ≠ 0 := by simp [h0]
  constructor
  · intro hw
    rw [take_row hq, layW_app, if_neg e0, Pg.layW, if_neg hw]; rfl
  · intro hw
    obtain ⟨hlt, e⟩ := List.getElem?_eq_some_iff.1 hq
    conv => lhs; rw [← List.take_append_drop k W]
    rw [layW_app, if_neg e0, List.drop_eq_getElem_cons hlt, e, Pg.layW, if_pos hw]
section
variable {h h' : Heap} {p d r : Nat} {nm : Str} {N S : Nat → Prop} {x : D} {ml : List (Int × Bv)} {W : Pg.Rw}
/-- N, and what came between. -/
def Nw (N : Nat → Prop) (h h' : Heap) (q : Nat) : Prop := N q ∨ (h.size ≤ q ∧ q < h'.size)
theorem DN.wide (hd : DN N d x h) (k : Keep h.size h h') : DN (Nw N h h') d x h' :=
  hd.own (S := fun _ => False) k.m (fun _ _ h => h.elim) fun q hq => hq.elim (fun h1 => ⟨.inl h1, Nat.lt_of_lt_of_le (hd.lt h1) k.size⟩) fun h1 => ⟨.inr h1.1, h1.2⟩
theorem Stp.back {x' : D} {H h' : Heap} (hs : Stp (Nw N h H) d x' H h') (k : Keep h.size h H) : Stp N d x' h h' :=
  ⟨hs.dn.sub fun q hq => .inl hq, (k.m (S := fun q => ¬ N q)).trans' hs.up fun q _ hq hN => hq (.inl hN)⟩
theorem Stp.trans {x' y : D} {H h' : Heap} (hs : Stp N d y h H) (ht : Stp N d x' H h') : Stp N d x' h h' := ⟨ht.dn, hs.up.trans ht.up⟩
theorem Stp.refl (hd : DN N d x h) : Stp N d x h h := ⟨hd, UpdM.refl _ _⟩
theorem Stp.keep (hd : DN N d x h) (k : Keep h.size h h') : Stp N d x h h' := ⟨hd.keep k, k.m⟩
theorem Rows.keys (hW : Rows ml W) {K : List Int} (hK : SrtI K) (hm : ∀ q, q ∈ K ↔ q ∈ mKeys ml) : K = W.map (·.1) := by
  refine Pg.srtI_ext hK hW.srt fun k => (hm k).trans ?_
  have : (W.map (·.1)).Perm (mKeys ml) := by
    have := hW.perm.map (·.1)
    rw [List.map_map] at this
    exact this
  exact (this.mem_iff).symm
theorem Rows.get (hW : Rows ml W) (hn : (mKeys ml).Nodup) {q : Int × Str} (hq : q ∈ W) : ∃ v, mGet ml q.1 = some v ∧ v.s = q.2 ∧ (q.1, v) ∈ ml := by
  obtain ⟨p, h1, h2⟩ := List.mem_map.1 (hW.perm.mem_iff.1 hq)
  subst h2
  exact ⟨p.2, (mGet_mem hn p.1 p.2).1 h1, rfl, h1⟩
theorem zSl : (Tryz.prog.info? 22).bind (·.zero) = some (.slice none 0 0) := by kernel_rfl
theorem PgsAt.look (hr : PgsAt N h r ml) {k : Int} {v : Bv} (hv : mGet ml k = some v) : Reads Tryz.prog (Instr.lookup 48 (.map (some r)) (.int .i64 k) false) h (.slice v.a v.n v.c) := by
  have := (reads_lookup (k := k) hr.map zSl).1
  rw [hv] at this; exact this
theorem PgsAt.nodup (hr : PgsAt N h r ml) : (mKeys ml).Nodup := by obtain ⟨_, _, _, _, h, _⟩ := hr.map; exact h
/-- the keys of a map of pages, sorted. -/
theorem keys_of (hr : PgsAt N h r ml) (hW : Rows ml W) :
    HC Tryz.prog 67 #[.map (some r)] h fun v h1 => Keep h.size h h1 ∧
      HC Tryz.prog 66 #[v] h1 fun v2 h2 => Keep h.size h h2 ∧ ∃ a c, v2 = .slice a W.length c ∧ (∀ q, blk a q → h.size ≤ q) ∧ Sl (IntE .i64) h2 a W.length (W.map (·.1)) := by
  refine (sortedKeysZ hr.map (by have := hr.len; omega) hr.keys).mono ?_
  rintro v h1 ⟨k1, hc⟩
  refine ⟨k1, hc.mono ?_⟩
  rintro v2 h2 ⟨k2, a, c, K, hK, hm, hl, rfl, hb, hsl⟩
  obtain rfl := hW.keys hK hm
  rw [List.length_map] at hsl ⊢
  exact ⟨k1.trans (k2.mono k1.size), a, c, rfl, hb, hsl⟩
theorem key_read {H : Heap} {a : Option Addr} {k : Nat} {q : Int × Str} (hs : Sl (IntE .i64) H a W.length (W.map (·.1))) (hq : W[k]? = some q) :
    ∃ p14, a = some p14 ∧ Reads Tryz.prog (Instr.loadAt 3 (.pointer (some (p14.add (k * 1))))) H (.int .i64 q.1) := by
  obtain ⟨p14, e, hc⟩ := hs.get (i := k) (x := q.1) (by rw [List.getElem?_map, hq]; rfl)
  exact ⟨p14, e, reads_load scI (hc 0 _ rfl)⟩

set_option maxHeartbeats 1000000 in
theorem lay_spec (hp : PagerAt h p d nm) (hNp : N p) (hd : DN N d x h) (hr : PgsAt N h r ml) (hW : Rows ml W) (hw : x.waits.length + W.length < 1073741824) :
    HC Tryz.prog 73 #[.pointer (some ⟨p, 0, none⟩), .map (some r)] h fun v h' => Stp N d (Pg.lay nm W x).2 h h' ∧ v = .int .i64 (Pg.lay nm W x).1 := by
  refine HC_of_vc (args := [.pointer (some ⟨p, 0, none⟩), .map (some r)]) (base := 56) (cuts := [8]) (bigs := []) hm Tryz.func73 ?_
  rw [vcLay]
  have hlen := hr.len
  have hWl := hW.len
  refine ⟨fun _ H => (Pg.layW nm W x).1 = 0 ∧ Stp N d (Pg.layW nm W x).2 h H, (keys_of hr hW).mono ?_, ?_⟩
  · rintro v h2 ⟨k2, hc⟩
    refine ⟨_, rfl, hc.mono ?_⟩
    rintro v h5 ⟨k5, a, c, rfl, hb, hsl⟩
    refine ⟨_, _, _, rfl, fun _ n12 H => ∃ k : Nat, n12 = k ∧ k ≤ W.length ∧ (Pg.layW nm (W.take k) x).1 = 0 ∧ Stp (Nw N h h5) d (Pg.layW nm (W.take k) x).2 h5 H,
      fun _ n12 _ => W.length - n12.toNat, ⟨0, rfl, Nat.zero_le _, rfl, Stp.refl (hd.wide k5)⟩, ?_⟩
    rintro n11 n12 H ⟨k, rfl, hk, h0, st⟩
    have hNs : ∀ q, N q → ¬ ¬ Nw N h h5 q := fun q hq hn => hn (.inl hq)
    refine br_intro (fun e => ?_) (fun e => ?_)
    · have e := of_decide_eq_true e
      have hkl : k < W.length := by omega
      have hq : W[k]? = some W[k] := List.getElem?_eq_getElem hkl
      obtain ⟨v, g1, g2, g3⟩ := hW.get hr.nodup (List.getElem_mem hkl)
      generalize W[k] = q at hq g1 g2 g3
      have hslH : Sl (IntE .i64) H a W.length (W.map (·.1)) := hsl.updM st.up fun _ b hb' hn => hn (.inr ⟨hb b hb', by
        obtain ⟨p0, e0, hc0⟩ := hsl.get (i := k) (x := q.1) (by rw [List.getElem?_map, hq]; rfl)
        obtain ⟨p1, e1, e2⟩ := hb'
        rw [e0] at e1; cases e1
        have := cell_lt (hc0 0 _ rfl)
        rw [Addr.add_block] at this; omega⟩)
      obtain ⟨p14, ea, hrd⟩ := key_read hslH hq
      have hpH : PagerAt H p d nm := (hp.keep k5).updM st.up (hNs p hNp)
      have hrH : PgsAt N H r ml := (hr.keep k5).updM st.up hNs
      have hww := Pg.layW_waits nm (W.take k) x
      rw [List.length_take] at hww
      refine ⟨p14, ⟨ea, by omega, by omega⟩, _, hrd, _, rfl, _, hpH.rd, _, rfl, _, hpH.rn, _, _, _, hrH.look g1, ?_⟩
      have hv := hrH.each _ g3
      refine (st.dn.write (s := nm) (b := v.s) (i := q.1) hv.sl (fun hn b hb => .inl (hv.blk hn b hb)) (by omega)).mono ?_
      rintro v23 h24 ⟨st2, rfl⟩
      rw [g2] at st2 ⊢
      obtain ⟨l1, l2⟩ := layW_next (n := nm) (x := x) h0 hq
      refine ⟨_, rfl, br_intro (fun e2 => ?_) fun e2 => ?_⟩
      · have e2 : (write (Pg.layW nm (W.take k) x).2 nm q.1 q.2).1 ≠ 0 := by simpa using e2
        have e3 := l2 e2
        have e4 : Pg.lay nm W x = Pg.layW nm W x := by unfold Pg.lay; rw [if_pos (by rw [e3]; exact e2)]
        rw [e4, e3]
        exact ⟨(st.trans st2).back k5, rfl⟩
      · have e2 : ¬ (write (Pg.layW nm (W.take k) x).2 nm q.1 q.2).1 ≠ 0 := by simpa using e2
        have e3 := l1 e2
        rw [wrap_i64 (by omega) (by omega)]
        exact ⟨⟨k + 1, rfl, hkl, by rw [e3], by rw [e3]; exact st.trans st2⟩, by dsimp only; omega⟩
    · have e := of_decide_eq_false e
      have hkl : k = W.length := by omega
      rw [hkl, List.take_length] at h0 st
      exact ⟨h0, st.back k5⟩
  · rintro n26 H ⟨h0, st⟩
    have hN0 : ∀ q, N q → ¬ ¬ N q := fun q hq hn => hn hq
    have hpH : PagerAt H p d nm := hp.updM st.up (hN0 p hNp)
    have hrH : PgsAt N H r ml := hr.updM st.up hN0
    have e0 : ¬ (Pg.layW nm W x).1 ≠ 0 := by simp [h0]
    have hww := Pg.layW_waits nm W x
    have hend : ∀ {G : Heap} {y : D}, Stp N d y h G → y = (Pg.lay1 nm W (Pg.layW nm W x).2).2 → (Pg.lay1 nm W (Pg.layW nm W x).2).1 = 0 → (∃(I46 : Heap → Prop), I46 G ∧ ∃p47,some (Addr.mk p 0 none) = some p47 ∧ ∃a48,(∀ (h49 : Heap), I46 h49 → 
        Reads Tryz.prog (Instr.loadAt 32 (.pointer (some p47))) h49 (.pointer a48)) ∧
        HC Tryz.prog 59 (Array.mk [Value.pointer (some (Addr.mk p 0 none))]) G fun (v50 : Value) (h51 : Heap) => ∃s52,v50 = .string s52 ∧ I46 h51 ∧
        HC Tryz.prog 58 (Array.mk [Value.pointer a48, Value.string s52]) h51 fun (v53 : Value) (h54 : Heap) => ∃n55,v53 = .int .i64 n55 ∧ Stp N d (Pg.lay nm W x).2 h h54 ∧ Value.int .i64 n55 = .int .i64 (Pg.lay nm W x).1) := by
      rintro G y sG rfl h1
      have e1 : ¬ (Pg.lay1 nm W (Pg.layW nm W x).2).1 ≠ 0 := by simp [h1]
      have hpG : PagerAt G p d nm := hp.updM sG.up (hN0 p hNp)
      have hww1 := Pg.lay1_waits nm W (Pg.layW nm W x).2
      refine ⟨fun g => g = G, rfl, _, rfl, some ⟨d, 0, none⟩, fun g e => by rw [e]; exact hpG.rd, (journal_spec hpG).mono ?_⟩
      rintro v h1 ⟨rfl, rfl⟩
      refine ⟨_, rfl, rfl, (sG.dn.remove (s := Pg.nmJ nm) (by omega)).mono ?_⟩
      rintro v h2 ⟨st3, rfl⟩
      have e4 : Pg.lay nm W x = remove (Pg.lay1 nm W (Pg.layW nm W x).2).2 (Pg.nmJ nm) := by unfold Pg.lay; rw [if_neg e0, if_neg e1]
      rw [e4]
      exact ⟨_, rfl, sG.trans st3, rfl⟩
    refine ⟨_, reads_len_map hrH.map, br_intro (fun e => ?_) fun e => ?_⟩
    · have e := of_decide_eq_true e
      have hWn : W ≠ [] := fun h1 => by rw [h1] at hWl; simp at hWl; omega
      have hl1 : Pg.lay1 nm W (Pg.layW nm W x).2 = sync (Pg.layW nm W x).2 nm := by unfold Pg.lay1; rw [if_neg hWn]
      refine ⟨_, rfl, _, hpH.rd, _, rfl, _, hpH.rn, (st.dn.sync (s := nm) (by omega)).mono ?_⟩
      rintro v h34 ⟨st2, rfl⟩
      refine ⟨_, rfl, br_intro (fun e2 => ?_) fun e2 => ?_⟩
      · have e2 : (sync (Pg.layW nm W x).2 nm).1 ≠ 0 := by simpa using e2
        have e4 : Pg.lay nm W x = sync (Pg.layW nm W x).2 nm := by unfold Pg.lay; rw [if_neg e0, hl1, if_pos e2]
        rw [e4]
        exact ⟨st.trans st2, rfl⟩
      · have e2 : (sync (Pg.layW nm W x).2 nm).1 = 0 := by simpa using e2
        exact hend (st.trans st2) (by rw [hl1]) (by rw [hl1]; exact e2)
    · have e := of_decide_eq_false e
      have hWn : W = [] := List.eq_nil_of_length_eq_zero (by omega)
      have hl1 : Pg.lay1 nm W (Pg.layW nm W x).2 = (0, (Pg.layW nm W x).2) := by unfold Pg.lay1; rw [if_pos hWn]
      exact hend st (by rw [hl1]) (by rw [hl1])
end
end Go.Proofs.YthkhaobmhheoaaaGreat
end
