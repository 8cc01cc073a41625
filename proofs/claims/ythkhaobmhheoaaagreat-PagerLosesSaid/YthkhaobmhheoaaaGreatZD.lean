/-
  Texts of this seat, laid one behind the other: Dk1 Dk2 DkC Dk3 Dk4 Dk5 Dk8 Dk9 DkA1 DkA2 DkA3 DkL DkB1 DkB2 DkF DkS. Conditions: none.
-/
import Derived.Test.YthkhaobmhheoaaaGreatZV
import Derived.Test.YthkhaobmhheoaaaGreatZP
import Derived.Test.YthkhaobmhheoaaaGreatZG
import Derived.Shelf.SlMaps.Clone
import Derived.Ground.SlmcProg
import Derived.Test.YthkhaobmhheoaaaGreatProg
section
set_option linter.unusedVariables false
set_option linter.unusedSimpArgs false
set_option maxRecDepth 100000
namespace Go.Proofs.YthkhaobmhheoaaaGreat
open Go Go.Vc Go.Proofs Go.Dk

theorem hm : Tryz.prog.follows .mixedOrders = true := by kernel_rfl
theorem undS : Tryz.prog.underlying 9 = some .string := by kernel_rfl
theorem undI : Tryz.prog.underlying 3 = some (.int .i64) := by kernel_rfl
theorem undB : Tryz.prog.underlying 5 = some (.int .u8) := by kernel_rfl
theorem undBs : Tryz.prog.underlying 22 = some (.slice 5) := by kernel_rfl
theorem undD : Tryz.prog.underlying 32 = some (.pointer (Tryz.prog.pointee 32)) := by kernel_rfl
theorem undMc : Tryz.prog.underlying 91 = some (.map 9 3) := by kernel_rfl
theorem undMp : Tryz.prog.underlying 92 = some (.map 101 103) := by kernel_rfl
theorem scS : scT Tryz.prog 9 = true := by kernel_rfl
theorem scI : scT Tryz.prog 3 = true := by kernel_rfl
theorem scB : scT Tryz.prog 4 = true := by kernel_rfl
theorem scU : scT Tryz.prog 45 = true := by kernel_rfl
theorem scMc : scT Tryz.prog 91 = true := by kernel_rfl
theorem scMp : scT Tryz.prog 92 = true := by kernel_rfl
theorem scWs : scT Tryz.prog 96 = true := by kernel_rfl
theorem szI : szOf Tryz.prog 3 = some 1 := by kernel_rfl
theorem szB : szOf Tryz.prog 4 = some 1 := by kernel_rfl
theorem szU : szOf Tryz.prog 45 = some 1 := by kernel_rfl
theorem szWs : szOf Tryz.prog 96 = some 1 := by kernel_rfl
theorem agSide : agT Tryz.prog 94 2 = true := by kernel_rfl
theorem agAt : agT Tryz.prog 101 2 = true := by kernel_rfl
theorem agPage : agT Tryz.prog 103 512 = true := by kernel_rfl
theorem agWrite : agT Tryz.prog 105 514 = true := by kernel_rfl
theorem szSide : szOf Tryz.prog 94 = some 2 := by kernel_rfl
theorem szPage : szOf Tryz.prog 103 = some 512 := by kernel_rfl
theorem szWrite : szOf Tryz.prog 105 = some 514 := by kernel_rfl
theorem zI : (Tryz.prog.info? 3).bind (·.zero) = some (.int .i64 0) := by kernel_rfl

/-- a page's cells. -/
def pgC (s : Str) : List Value := (List.range 512).map fun j => .int .u8 ((s.data.getD j 0).toNat : Nat)
theorem pgC_len (s : Str) : (pgC s).length = 512 := by simp [pgC]
def pv (s : Str) : Value := .agg (pgC s).toArray
theorem zP : (Tryz.prog.info? 103).bind (·.zero) = some (pv zp) := by kernel_rfl
theorem zcPage : (zc Tryz.prog 103).size = 512 := by kernel_rfl
theorem zcWrite : (zc Tryz.prog 105).size = 514 := by kernel_rfl

theorem flatAt : Flat Tryz.prog 101 #[(Tryz.prog.fieldsOf 101)[0]!, (Tryz.prog.fieldsOf 101)[1]!] := ⟨by kernel_rfl, by kernel_rfl, by kernel_rfl⟩
def Mc : Mk Tryz.prog 91 9 3 Str Int := strMk Tryz.prog 91 9 3 Int (.int .i64) undMc undS
def Mp : Mk Tryz.prog 92 101 103 (Str × Int) Str :=
  pairMk Tryz.prog 92 101 103 Str pv _ _ undMp flatAt (by decide +kernel) (by decide +kernel) (by kernel_rfl) (by kernel_rfl) (by kernel_rfl) (by kernel_rfl)

/-- the i-th page of a file, with noughts where there is none. -/
def pg (F : Fs) (n : Str) (i : Int) : Str := if 0 ≤ i then (pgs F n).getD i.toNat zp else zp
/-- files, told by two maps. -/
structure Like (F : Fs) (mc : List (Str × Int)) (mp : List ((Str × Int) × Str)) : Prop where
  count : ∀ n, mGet mc n = (mGet F n).map fun l => (l.length : Int)
  page : ∀ n i, (mGet mp (n, i)).getD zp = pg F n i
  there : ∀ n i, (mGet mp (n, i)).isSome = true → 0 ≤ i ∧ i < (pgs F n).length
/-- files on a heap. -/
def SideAt (h : Heap) (c p : Nat) (F : Fs) : Prop := ∃ mc mp, MapAt Mc h c mc ∧ MapAt Mp h p mp ∧ Like F mc mp

theorem SideAt.upd {h h' : Heap} {c p : Nat} {F : Fs} {S : Nat → Prop} (hs : SideAt h c p F) (u : Upd S h h') (hc : ¬ S c) (hp : ¬ S p) : SideAt h' c p F := by
  obtain ⟨mc, mp, h1, h2, h3⟩ := hs
  exact ⟨mc, mp, h1.upd u hc, h2.upd u hp, h3⟩
theorem SideAt.lt {h : Heap} {c p : Nat} {F : Fs} (hs : SideAt h c p F) : c < h.size ∧ p < h.size := by
  obtain ⟨mc, mp, h1, h2, h3⟩ := hs
  exact ⟨h1.lt, h2.lt⟩

/-- a write that isn't safe, in cells. -/
def WtE : Enc Wt := ⟨514, fun w => .string w.n :: .int .i64 w.i :: pgC w.p, fun w => by simp [pgC_len], fun w v hv => by
  simp only [List.mem_cons] at hv
  rcases hv with rfl | rfl | hv
  · exact one_string _
  · exact one_int _ _
  · simp only [pgC, List.mem_map] at hv
    obtain ⟨j, _, rfl⟩ := hv
    exact one_int _ _⟩

def diskC (c1 p1 c2 p2 : Nat) (A : Option Addr) (n c : Nat) (x : D) : List Value :=
  [.map (some c1), .map (some p1), .map (some c2), .map (some p2), .slice A n c, .int .i64 x.room, .bool x.down, .int .i64 x.acts, .int .i64 x.fuse, .int .u64 x.keep]
/-- a disk on a heap, by its blocks. -/
structure DiskP (h : Heap) (d c1 p1 c2 p2 : Nat) (A : Option Addr) (n c : Nat) (x : D) : Prop where
  box : h[d]? = some (.cells (diskC c1 p1 c2 p2 A n c x).toArray 98 (0, 0))
  now : SideAt h c1 p1 x.now
  safe : SideAt h c2 p2 x.safe
  waits : Own WtE 105 0 h A n c x.waits
  nd : [c1, p1, c2, p2].Nodup
  ok : Ok x

/-- its blocks. -/
def blks (d c1 p1 c2 p2 : Nat) (A : Option Addr) (b : Nat) : Prop := b = d ∨ b = c1 ∨ b = p1 ∨ b = c2 ∨ b = p2 ∨ blk A b
/-- a disk on a heap, all of whose blocks are of O. -/
def DiskAt (h : Heap) (d : Nat) (x : D) (O : Nat → Prop) : Prop :=
  (∀ b, O b → b < h.size) ∧ ∃ c1 p1 c2 p2 A n c, DiskP h d c1 p1 c2 p2 A n c x ∧ ∀ b, blks d c1 p1 c2 p2 A b → O b

section
variable {h h' : Heap} {d c1 p1 c2 p2 : Nat} {A : Option Addr} {n c : Nat} {x : D} {O : Nat → Prop}

theorem DiskP.ne_map (hd : DiskP h d c1 p1 c2 p2 A n c x) : d ≠ c1 ∧ d ≠ p1 ∧ d ≠ c2 ∧ d ≠ p2 := by
  have e := hd.box
  obtain ⟨_, _, ⟨_, _, b1, _⟩, ⟨_, _, b2, _⟩, _⟩ := hd.now
  obtain ⟨_, _, ⟨_, _, b3, _⟩, ⟨_, _, b4, _⟩, _⟩ := hd.safe
  refine ⟨?_, ?_, ?_, ?_⟩ <;> (intro h0; subst h0; simp_all)
theorem DiskP.ne_waits (hd : DiskP h d c1 p1 c2 p2 A n c x) {b : Nat} (hb : blk A b) : b ≠ d ∧ b ≠ c1 ∧ b ≠ p1 ∧ b ≠ c2 ∧ b ≠ p2 := by
  have e := hd.box
  obtain ⟨_, _, ⟨_, _, b1, _⟩, ⟨_, _, b2, _⟩, _⟩ := hd.now
  obtain ⟨_, _, ⟨_, _, b3, _⟩, ⟨_, _, b4, _⟩, _⟩ := hd.safe
  obtain ⟨q, rfl, rfl⟩ := hb
  rcases hd.waits.2.2 with ⟨h0, _⟩ | ⟨b', cells, h0, _, hb', _⟩
  · cases h0
  · cases h0
    refine ⟨?_, ?_, ?_, ?_, ?_⟩ <;> (intro h0; subst h0; simp_all)
theorem DiskP.lt (hd : DiskP h d c1 p1 c2 p2 A n c x) {b : Nat} (hb : blks d c1 p1 c2 p2 A b) : b < h.size := by
  rcases hb with rfl | rfl | rfl | rfl | rfl | hb
  · exact at_lt hd.box
  · exact hd.now.lt.1
  · exact hd.now.lt.2
  · exact hd.safe.lt.1
  · exact hd.safe.lt.2
  · exact (hd.waits.block b hb).2
theorem DiskP.upd {S : Nat → Prop} (hd : DiskP h d c1 p1 c2 p2 A n c x) (u : Upd S h h') (hs : ∀ b, blks d c1 p1 c2 p2 A b → ¬ S b) : DiskP h' d c1 p1 c2 p2 A n c x :=
  ⟨u.at hd.box (hs d (.inl rfl)), hd.now.upd u (hs _ (.inr (.inl rfl))) (hs _ (.inr (.inr (.inl rfl)))), hd.safe.upd u (hs _ (.inr (.inr (.inr (.inl rfl))))) (hs _ (.inr (.inr (.inr (.inr (.inl rfl)))))),
    hd.waits.upd u (fun b hb => hs b (.inr (.inr (.inr (.inr (.inr hb)))))), hd.nd, hd.ok⟩
theorem DiskAt.upd {S : Nat → Prop} (hd : DiskAt h d x O) (u : Upd S h h') (hs : ∀ b, O b → ¬ S b) : DiskAt h' d x O := by
  obtain ⟨hO, c1, p1, c2, p2, A, n, c, hp, hb⟩ := hd
  exact ⟨fun b h0 => Nat.lt_of_lt_of_le (hO b h0) u.size, c1, p1, c2, p2, A, n, c, hp.upd u fun b h0 => hs b (hb b h0), hb⟩
theorem DiskAt.keep (hd : DiskAt h d x O) (k : Keep h.size h h') : DiskAt h' d x O :=
  hd.upd (k.upd fun _ => False) fun _ _ h => h
theorem DiskAt.lt (hd : DiskAt h d x O) {b : Nat} (hb : O b) : b < h.size := hd.1 b hb
theorem DiskAt.ok (hd : DiskAt h d x O) : Ok x := by obtain ⟨_, _, _, _, _, _, _, _, hp, _⟩ := hd; exact hp.ok
theorem DiskAt.box (hd : DiskAt h d x O) : O d := by obtain ⟨_, _, _, _, _, _, _, _, hp, hb⟩ := hd; exact hb d (.inl rfl)

theorem DiskP.rd (hd : DiskP h d c1 p1 c2 p2 A n c x) {k : Nat} {v : Value} (hk : (diskC c1 p1 c2 p2 A n c x)[k]? = some v) : cell h ((⟨d, 0, none⟩ : Addr).add k) = some v :=
  cell_cells hd.box (by simpa using hk)

/-- the box alone is written. -/
theorem DiskP.store {c' : List Value} {A' : Option Addr} {n' m' : Nat} {y : D} (hd : DiskP h d c1 p1 c2 p2 A n c x) (hb : h'[d]? = some (.cells c'.toArray 98 (0, 0))) (hc : c' = diskC c1 p1 c2 p2 A n c y)
    (u : Upd (fun b => b = d) h h') (e1 : y.now = x.now) (e2 : y.safe = x.safe) (e3 : y.waits = x.waits) (ok : Ok y) : DiskP h' d c1 p1 c2 p2 A n c y := by
  obtain ⟨q1, q2, q3, q4⟩ := hd.ne_map
  refine ⟨by rw [hb, hc], by rw [e1]; exact hd.now.upd u (Ne.symm q1) (Ne.symm q2), by rw [e2]; exact hd.safe.upd u (Ne.symm q3) (Ne.symm q4), by rw [e3]; exact hd.waits.upd u fun b hb => (hd.ne_waits hb).1, hd.nd, ok⟩
end

theorem ready_spec {h : Heap} {d : Nat} {x : D} {O : Nat → Prop} (hd : DiskAt h d x O) :
    HC Tryz.prog 53 #[.pointer (some ⟨d, 0, none⟩)] h fun v h' => h' = h ∧ v = .int .i64 (if x.down then 8 else 0) := by
  obtain ⟨hO, c1, p1, c2, p2, A, n, c, hp, hb⟩ := hd
  refine HC_of_vc (args := [.pointer (some ⟨d, 0, none⟩)]) (base := 11) (cuts := []) (bigs := []) hm Tryz.func53 ?_
  rw [vcReady]
  refine ⟨_, reads_eql_nil undD, br_intro (fun e => by cases e) fun _ => ⟨_, rfl, x.down, reads_load scB (hp.rd rfl), ?_⟩⟩
  cases x.down <;> exact ⟨rfl, rfl⟩
theorem ready_nil {h : Heap} : HC Tryz.prog 53 #[.pointer none] h fun v h' => h' = h ∧ v = .int .i64 2 := by
  refine HC_of_vc (args := [.pointer none]) (base := 11) (cuts := []) (bigs := []) hm Tryz.func53 ?_
  rw [vcReady0]
  exact ⟨_, reads_eql_nil undD, br_intro (fun _ => ⟨rfl, rfl⟩) fun e => by cases e⟩

theorem act_ok {x : D} (h : Ok x) : Ok (act x) := ⟨h.now, h.safe, h.room, h.tot, h.fewer, h.waits, h.pnow, h.psafe, by show x.fuse - 1 ≤ _; have := h.fuse; omega, h.keep⟩
theorem act_spec {h : Heap} {d : Nat} {x : D} {O : Nat → Prop} (hd : DiskAt h d x O) :
    HC Tryz.prog 54 #[.pointer (some ⟨d, 0, none⟩)] h fun v h' => DiskAt h' d (act x) O ∧ Upd O h h' ∧ v = .bool (goes x) := by
  obtain ⟨hO, c1, p1, c2, p2, A, n, c, hp, hb⟩ := hd
  have hOd := hb d (.inl rfl)
  refine HC_of_vc (args := [.pointer (some ⟨d, 0, none⟩)]) (base := 27) (cuts := []) (bigs := []) hm Tryz.func54 ?_
  rw [vcAct]
  refine ⟨_, rfl, _, reads_load scI (hp.rd rfl), _, rfl, svc_store_box szI hp.box (by simp [diskC]) rfl (one_int _ _) fun h4 s4 b4 u4 => ⟨_, rfl, x.fuse, ?_, ?_⟩⟩
  · exact reads_load scI (cell_cells b4 (by simp [diskC]))
  have okA := act_ok hp.ok
  have uO : Upd O h h4 := u4.of_sub fun i _ e => e ▸ hOd
  refine br_intro (fun e => ?_) (fun e => ?_)
  · have e : 0 < x.fuse := by simpa using e
    refine ⟨_, rfl, x.fuse, reads_load scI (cell_cells b4 (by simp [diskC])), _, rfl, svc_store_box szI b4 (by simp [diskC]) rfl (one_int _ _) fun h11 s11 b11 u11 => ⟨_, rfl, (x.fuse - 1 : Nat), ?_, ?_⟩⟩
    · refine reads_load scI (cell_cells b11 ?_)
      have := hp.ok.fuse
      have hw : IntKind.i64.wrap ((x.fuse : Int) - 1) = ((x.fuse - 1 : Nat) : Int) := by rw [wrap_i64 (by omega) (by omega)]; omega
      simp [diskC, hw]
    · have hf := hp.ok.fuse
      have hw : IntKind.i64.wrap ((x.fuse : Int) - 1) = ((x.fuse - 1 : Nat) : Int) := by rw [wrap_i64 (by omega) (by omega)]; omega
      refine ⟨⟨fun b h0 => by rw [s11, s4]; exact hO b h0, c1, p1, c2, p2, A, n, c, hp.store (c' := _) (A' := A) (n' := n) (m' := c) b11 ?_ (u4.trans u11) rfl rfl rfl okA, hb⟩, uO.trans (u11.of_sub fun i _ e => e ▸ hOd), ?_⟩
      · simp [diskC, act, hw]
      · congr 1
        unfold goes
        have : x.fuse - 1 = 0 ↔ x.fuse = 1 := by omega
        by_cases h1 : x.fuse = 1
        · rw [h1]; rfl
        · rw [beq_eq_false_iff_ne.2 h1, beq_eq_false_iff_ne]; omega
  · have e : x.fuse = 0 := by simpa using e
    refine ⟨⟨fun b h0 => by rw [s4]; exact hO b h0, c1, p1, c2, p2, A, n, c, hp.store (c' := _) (A' := A) (n' := n) (m' := c) b4 ?_ u4 rfl rfl rfl okA, hb⟩, uO, ?_⟩
    · simp [diskC, act, e]
    · simp [goes, e]
end Go.Proofs.YthkhaobmhheoaaaGreat
end

section
set_option linter.unusedVariables false
set_option linter.unusedSimpArgs false
set_option maxRecDepth 100000
namespace Go.Proofs.YthkhaobmhheoaaaGreat
open Go Go.Vc Go.Proofs Go.Dk

theorem setP_len (l : List Str) (i : Nat) (p : Str) : (setP l i p).length = max l.length (i + 1) := by simp [setP]; omega
theorem setP_get (l : List Str) (i : Nat) (p : Str) (j : Nat) : (setP l i p).getD j zp = if j = i then p else l.getD j zp := by
  unfold setP
  simp only [List.getD_eq_getElem?_getD, List.getElem?_set]
  by_cases h : i = j
  · subst h; simp; rw [if_pos (by omega)]; rfl
  · simp only [if_neg h, if_neg (Ne.symm h)]
    by_cases hj : j < l.length
    · simp [List.getElem?_append_left hj]
    · rw [List.getElem?_append_right (by omega), List.getElem?_eq_none (l := l) (by omega), List.getElem?_replicate]
      split <;> rfl
theorem pgs_put {F : Fs} (h : SrtF F) (n : Str) (l : List Str) (q : Str) : pgs (put n l F) q = if q = n then l else pgs F q := by
  unfold pgs; rw [get_put h]; split <;> rfl
theorem Like.look {F : Fs} {mc : List (Str × Int)} {mp : List ((Str × Int) × Str)} (hl : Like F mc mp) (n : Str) : (mGet mc n).getD 0 = ((pgs F n).length : Int) := by
  rw [hl.count]; unfold pgs; cases mGet F n <;> rfl
theorem Like.set {F : Fs} {mc : List (Str × Int)} {mp : List ((Str × Int) × Str)} (hl : Like F mc mp) (hs : SrtF F) (n : Str) (i : Nat) (q : Str) (k : Int) (hk : k = max ((pgs F n).length : Int) (i + 1)) :
    Like (put n (setP (pgs F n) i q) F) (mPut mc n k) (mPut mp (n, (i : Int)) q) := by
  refine ⟨fun m => ?_, fun m j => ?_, fun m j hj => ?_⟩
  · rw [mGet_put, get_put hs]
    by_cases h : n = m
    · subst h; simp [setP_len, hk]; omega
    · rw [if_neg h, if_neg (Ne.symm h)]; exact hl.count m
  · rw [mGet_put]
    unfold pg
    rw [pgs_put hs]
    have h0 := hl.page m j
    unfold pg at h0
    by_cases h : m = n
    · subst h
      rw [if_pos rfl]
      by_cases hj : (i : Int) = j
      · subst hj; rw [if_pos rfl, if_pos (by omega)]; simp only [Int.toNat_natCast, setP_get, if_true, Option.getD_some]
      · rw [if_neg (by simpa using hj), h0]
        by_cases h1 : 0 ≤ j
        · simp only [if_pos h1, setP_get]; rw [if_neg (by omega)]
        · simp only [if_neg h1]
    · rw [if_neg h, if_neg (by intro e; exact h (Prod.ext_iff.1 e).1.symm)]; exact h0
  · rw [mGet_put] at hj
    rw [pgs_put hs]
    by_cases h : m = n
    · subst h
      rw [if_pos rfl, setP_len]
      by_cases hij : (i : Int) = j
      · subst hij; omega
      · rw [if_neg (by simpa using hij)] at hj
        have := hl.there m j hj; omega
    · rw [if_neg h]; rw [if_neg (by intro e; exact h (Prod.ext_iff.1 e).1.symm)] at hj; exact hl.there m j hj

theorem pgC_one (q : Str) : oneCells (pgC q) := fun v hv => by
  simp only [pgC, List.mem_map] at hv
  obtain ⟨j, _, rfl⟩ := hv
  exact one_int _ _

/-- a side's map is looked up. -/
theorem reads_count {h : Heap} {c : Nat} {F : Fs} {mc : List (Str × Int)} {mp : List ((Str × Int) × Str)} (hc : MapAt Mc h c mc) (hl : Like F mc mp) (s : Str) :
    Reads Tryz.prog (Instr.lookup 91 (.map (some c)) (.string s) false) h (.int .i64 (pgs F s).length) := by
  have := (reads_lookup (k := s) hc zI).1
  rw [← hl.look]
  cases hg : mGet mc s <;> (rw [hg] at this; exact this)
theorem reads_count2 {h : Heap} {c : Nat} {F : Fs} {mc : List (Str × Int)} {mp : List ((Str × Int) × Str)} (hc : MapAt Mc h c mc) (hl : Like F mc mp) (s : Str) :
    Reads Tryz.prog (Instr.lookup 91 (.map (some c)) (.string s) true) h (.tuple #[.int .i64 (pgs F s).length, .bool (mGet F s).isSome]) := by
  have := (reads_lookup (k := s) hc zI).2
  rw [← hl.look]
  have hi : (mGet F s).isSome = (mGet mc s).isSome := by rw [hl.count]; cases mGet F s <;> rfl
  rw [hi]
  cases hg : mGet mc s <;> (rw [hg] at this; exact this)
theorem reads_page {h : Heap} {p : Nat} {F : Fs} {mc : List (Str × Int)} {mp : List ((Str × Int) × Str)} (hp : MapAt Mp h p mp) (hl : Like F mc mp) (s : Str) (i : Int) :
    Reads Tryz.prog (Instr.lookup 92 (.map (some p)) (.agg #[.string s, .int .i64 i]) false) h (pv (pg F s i)) := by
  have := (reads_lookup (k := (s, i)) hp zP).1
  rw [← hl.page]
  cases hg : mGet mp (s, i) <;> (rw [hg] at this; exact this)
theorem reads_page2 {h : Heap} {p : Nat} {F : Fs} {mc : List (Str × Int)} {mp : List ((Str × Int) × Str)} (hp : MapAt Mp h p mp) (hl : Like F mc mp) (s : Str) (i : Int) :
    Reads Tryz.prog (Instr.lookup 92 (.map (some p)) (.agg #[.string s, .int .i64 i]) true) h (.tuple #[pv (pg F s i), .bool (mGet mp (s, i)).isSome]) := by
  have := (reads_lookup (k := (s, i)) hp zP).2
  rw [← hl.page]
  cases hg : mGet mp (s, i) <;> (rw [hg] at this; exact this)

/-- one of two blocks. -/
def two (c p b : Nat) : Prop := b = c ∨ b = p

theorem set_spec {h : Heap} {c p : Nat} {F : Fs} {s q : Str} {i : Nat} (hs : SideAt h c p F) (hF : SrtF F) (hne : c ≠ p) (hi : i < 4611686018427387904) :
    HC Tryz.prog 55 #[.agg #[.map (some c), .map (some p)], .agg #[.string s, .int .i64 i], pv q] h
      fun v h' => SideAt h' c p (put s (setP (pgs F s) i q) F) ∧ Upd (two c p) h h' ∧ v = .tuple #[] := by
  obtain ⟨mc, mp, hc, hp, hl⟩ := hs
  refine HC_of_vc (args := [.agg #[.map (some c), .map (some p)], .agg #[.string s, .int .i64 i], pv q]) (base := 23) (cuts := []) (bigs := []) hm Tryz.func55 ?_
  unfold pv
  rw [vcSet]
  generalize hH : (((Array.push h (Obj.cells (Array.mk [Value.map (some c), Value.map (some p)]) 94)).push (Obj.cells (Array.mk [Value.string s, Value.int IntKind.i64 i]) 101)).push (Obj.cells (pgC q).toArray 103)) = H
  have b0 : H[h.size]? = some (Obj.cells (Array.mk [Value.map (some c), Value.map (some p)]) 94) := by rw [← hH]; exact push3_0 _ _ _ _
  have b1 : H[h.size + 1]? = some (Obj.cells (Array.mk [Value.string s, Value.int IntKind.i64 i]) 101) := by rw [← hH]; exact push3_1 _ _ _ _
  have b2 : H[h.size + 2]? = some (Obj.cells (pgC q).toArray 103) := by rw [← hH]; exact push3_2 _ _ _ _
  have kH : Keep h.size h H := by rw [← hH]; exact ((keep_push h _).trans (Keep.push _ _ _ (by simp))).trans (Keep.push _ _ _ (by simp; omega))
  clear hH
  simp only [Array.size_push]
  have lc := hc.lt
  have lp := hp.lt
  refine ⟨some p, reads_load scMp (cell_cells b0 rfl), s, (i : Int), reads_load_agg (cs := [.string s, .int .i64 i]) agAt rfl (cells_all b1), (pgC q).toArray, reads_load_agg agPage (pgC_len q) (cells_all b2), ?_⟩
  refine svc_mapUpdate (M := Mp) (k := (s, (i : Int))) (v := q) (hp.keep kH) fun h5 s5 u5 m5 => ?_
  have c0 := u5.at b0 (by omega)
  have c1 := u5.at b1 (by omega)
  have hc5 := (hc.keep kH).upd u5 hne
  refine ⟨some c, reads_load scMc (cell_cells0 c0 rfl), s, reads_load scS (cell_cells0 c1 rfl), some c, reads_load scMc (cell_cells0 c0 rfl), s, reads_load scS (cell_cells0 c1 rfl), _, reads_count hc5 hl s, (i : Int), reads_load scI (cell_cells c1 rfl), _, reads_max, ?_⟩
  have hlen : ((pgs F s).length : Int) = (mGet mc s).getD 0 := (hl.look s).symm
  refine svc_mapUpdate (M := Mc) (k := s) (v := _) hc5 fun h14 s14 u14 m14 => ?_
  refine ⟨⟨_, _, m14, m5.upd u14 (Ne.symm hne), hl.set hF s i q _ ?_⟩, (kH.upd _).trans ((u5.mono fun b e => .inr e).trans (u14.mono fun b e => .inl e)), by first | rfl | trivial⟩
  rw [wrap_i64 (by omega) (by omega)]
  omega

theorem free_spec {h : Heap} {d : Nat} {x : D} {O : Nat → Prop} (hd : DiskAt h d x O) :
    HC Tryz.prog 24 #[.pointer (some ⟨d, 0, none⟩)] h fun v h' => Keep h.size h h' ∧ v = .int .i64 (free x) := by
  obtain ⟨hO, c1, p1, c2, p2, A, n, c, hp, hb⟩ := hd
  obtain ⟨mc, mp, hc, hmp, hl⟩ := hp.now
  have hnd : (mKeys mc).Nodup := by obtain ⟨_, _, _, _, h0, _⟩ := hc; exact h0
  have hnn : ∀ q ∈ mc, 0 ≤ q.2 := fun q hq => by
    have h0 := (mGet_mem hnd q.1 q.2).1 hq
    rw [hl.count] at h0
    cases hg : mGet x.now q.1 with
    | none => rw [hg] at h0; cases h0
    | some l => rw [hg] at h0; simp at h0; omega
  have htot : sumV mc = tot x.now := by
    have hk : mKeys (x.now.map fun q => (q.1, (q.2.length : Int))) = names x.now := by simp [mKeys]
    have hg : ∀ (F : Fs) k, mGet (F.map fun q => (q.1, (q.2.length : Int))) k = (mGet F k).map fun l => (l.length : Int) := by
      intro F k
      induction F with
      | nil => rfl
      | cons q F ih => by_cases h0 : q.1 = k <;> simp [mGet, h0, ih]
    have hpm := perm_of_get hnd (by rw [hk]; exact srt_nodup hp.ok.now) fun k => (hl.count k).trans (hg x.now k).symm
    rw [sumV_perm hpm]
    generalize x.now = F
    induction F with
    | nil => rfl
    | cons q F ih => simp [sumV, tot] at ih ⊢; omega
  have hroom := hp.ok.tot
  have hr := hp.ok.room
  refine HC_of_vc (args := [.pointer (some ⟨d, 0, none⟩)]) (base := 26) (cuts := []) (bigs := []) hm Tryz.func24 ?_
  rw [vcFree]
  refine ⟨_, reads_eql_nil undD, br_intro (fun e => by cases e) fun _ => ⟨_, rfl, (x.room : Int), reads_load scI (hp.rd rfl), _, rfl, some c1, reads_load scMc (cell_cells0 hp.box rfl), ?_⟩⟩
  refine svc_range (M := Mc) hc fun h6 k6 s6 i6 => ⟨_, rfl, ?_⟩
  refine ⟨fun n10 h11 => ∃ left cur, IterAt Mc h11 h.size c1 mc left cur ∧ Keep h.size h h11 ∧ n10 = x.room - (sumV mc - sumV left) ∧ (∀ q ∈ left, 0 ≤ q.2) ∧ 0 ≤ sumV left ∧ sumV left ≤ sumV mc,
    fun n10 h11 => match h11[h.size]? with | some (.mapIter _ _ seen _) => (match h11[c1]? with | some (.map es _) => (leftOf es seen).size | _ => 0) | _ => 0,
    ⟨mc, none, i6, k6, by omega, hnn, sumV_nonneg hnn, Int.le_refl _⟩, ?_⟩
  rintro n10 h11 ⟨left, cur, hit, k11, rfl, hnl, h0, h1⟩
  have size : ∀ {h' : Heap} {left : List (Str × Int)} {cur}, IterAt Mc h' h.size c1 mc left cur → (match h'[h.size]? with | some (.mapIter _ _ seen _) => (match h'[c1]? with | some (.map es _) => (leftOf es seen).size | _ => 0) | _ => 0) = left.length := by
    rintro h' left cur ⟨es, clock, since, seen, last, e1, _, _, _, _, e2, _, _, _, e3, _⟩
    rw [e2, e1]
    have := congrArg List.length e3
    simpa using this
  refine svc_next hit (fun hl0 => .inl ⟨rfl, k11, ?_⟩) fun j q h13 hj u13 s13 i13 => .inr ⟨_, _, rfl, _, _, reads_entry i13, ⟨left.eraseIdx j, some q, i13, k11.trans ⟨by omega, fun b hb => u13.block b (by have := k11.size; omega) (by omega)⟩, ?_, fun r hr => hnl r (List.mem_of_mem_eraseIdx hr), ?_, ?_⟩, ?_⟩
  · subst hl0
    show Value.int .i64 _ = _
    congr 1
    unfold free
    rw [← htot]
    simp [sumV]
  · have hq := hnl q (List.mem_of_getElem? hj)
    have he := sumV_erase left j q hj
    have hn0 : 0 ≤ sumV (left.eraseIdx j) := sumV_nonneg fun r hr => hnl r (List.mem_of_mem_eraseIdx hr)
    rw [wrap_i64 (by omega) (by omega)]; omega
  · exact sumV_nonneg fun r hr => hnl r (List.mem_of_mem_eraseIdx hr)
  · have hq := hnl q (List.mem_of_getElem? hj)
    have he := sumV_erase left j q hj
    omega
  · dsimp only
    rw [size i13, size hit, List.length_eraseIdx]
    have := (List.getElem?_eq_some_iff.1 hj).1
    rw [if_pos this]; omega
end Go.Proofs.YthkhaobmhheoaaaGreat
end

section
namespace Go.Proofs
open Go.RowKit Go.Maps Go.Shelf

section
open Go.Shelf
def Tryz.cloneC_ren : Go.Shelf.Ren := ⟨fun | 5 => 87 | 7 => 125 | n => n, fun | 23 => 91 | 25 => 9 | 3 => 3 | 4 => 4 | 20 => 20 | n => n, fun | n => n⟩
theorem Tryz.cloneC : Go.Proofs.SlLaysW.n5 Tryz.prog Tryz.cloneC_ren := {
  mixed := by kernel_rfl
  f5 := ⟨Tryz.f87.name, by decide, Tryz.func87.trans (congrArg some (by kernel_rfl))⟩
  f7 := Tryz.func125.trans (congrArg some (by kernel_rfl))
  t4 := Tryz.underlying4
  a4 := Tryz.isAgg4
  z4 := Tryz.sizeOf4
  v4 := Tryz.zeroValue4
  t20 := Tryz.underlying20
  a20 := Tryz.isAgg20
  z20 := Tryz.sizeOf20
  v20 := Tryz.zeroValue20
  t23 := Tryz.underlying91
  a23 := Tryz.isAgg91
  z23 := Tryz.sizeOf91
  v23 := Tryz.zeroValue91 }
end
section
open Go.Shelf
def Tryz.cloneP_ren : Go.Shelf.Ren := ⟨fun | 5 => 88 | 7 => 125 | n => n, fun | 23 => 92 | 25 => 101 | 3 => 103 | 4 => 4 | 20 => 20 | n => n, fun | n => n⟩
theorem Tryz.cloneP : Go.Proofs.SlLaysW.n5 Tryz.prog Tryz.cloneP_ren := {
  mixed := by kernel_rfl
  f5 := ⟨Tryz.f88.name, by decide, Tryz.func88.trans (congrArg some (by kernel_rfl))⟩
  f7 := Tryz.func125.trans (congrArg some (by kernel_rfl))
  t4 := Tryz.underlying4
  a4 := Tryz.isAgg4
  z4 := Tryz.sizeOf4
  v4 := Tryz.zeroValue4
  t20 := Tryz.underlying20
  a20 := Tryz.isAgg20
  z20 := Tryz.sizeOf20
  v20 := Tryz.zeroValue20
  t23 := Tryz.underlying92
  a23 := Tryz.isAgg92
  z23 := Tryz.sizeOf92
  v23 := Tryz.zeroValue92 }
end
theorem Tryz.cloneC_calls (b : Nat) (es : Array MapEntry) (clock : Nat) (w : World) (hb : w.heap[b]? = some (.map es clock)) :
    Calls Tryz.prog 87 #[.map (some b)] w fun e w' => e = .returned (.map (some w.heap.size)) ∧ w' = w.alloc (.map es clock) := AnyW.maps_Clone Tryz.cloneC b es clock w hb
theorem Tryz.cloneP_calls (b : Nat) (es : Array MapEntry) (clock : Nat) (w : World) (hb : w.heap[b]? = some (.map es clock)) :
    Calls Tryz.prog 88 #[.map (some b)] w fun e w' => e = .returned (.map (some w.heap.size)) ∧ w' = w.alloc (.map es clock) := AnyW.maps_Clone Tryz.cloneP b es clock w hb
end Go.Proofs
end

section
set_option linter.unusedVariables false
set_option linter.unusedSimpArgs false
set_option maxRecDepth 100000
namespace Go.Proofs.YthkhaobmhheoaaaGreat
open Go Go.Vc Go.Proofs Go.Dk

theorem clone_mapC {h : Heap} {b : Nat} {m : List (Str × Int)} (hm0 : MapAt Mc h b m) :
    HC Tryz.prog 87 #[.map (some b)] h fun v h' => Keep h.size h h' ∧ v = .map (some h.size) ∧ MapAt Mc h' h.size m ∧ h'.size = h.size + 1 := by
  obtain ⟨es, clock, hb, rest⟩ := hm0
  refine ⟨fun w hw => ?_⟩
  subst hw
  refine (Tryz.cloneC_calls b es clock w hb).mono ?_
  rintro e w' ⟨rfl, rfl⟩
  exact ⟨_, rfl, Sane.push rfl, keep_push _ _, rfl, ⟨es, clock, push_at _ _, rest⟩, by show (w.heap.push _).size = _; simp⟩
theorem clone_mapP {h : Heap} {b : Nat} {m : List ((Str × Int) × Str)} (hm0 : MapAt Mp h b m) :
    HC Tryz.prog 88 #[.map (some b)] h fun v h' => Keep h.size h h' ∧ v = .map (some h.size) ∧ MapAt Mp h' h.size m ∧ h'.size = h.size + 1 := by
  obtain ⟨es, clock, hb, rest⟩ := hm0
  refine ⟨fun w hw => ?_⟩
  subst hw
  refine (Tryz.cloneP_calls b es clock w hb).mono ?_
  rintro e w' ⟨rfl, rfl⟩
  exact ⟨_, rfl, Sane.push rfl, keep_push _ _, rfl, ⟨es, clock, push_at _ _, rest⟩, by show (w.heap.push _).size = _; simp⟩

theorem side_cells (c p : Nat) : oneCells [Value.map (some c), Value.map (some p)] := fun v hv => by
  simp only [List.mem_cons, List.not_mem_nil, or_false] at hv
  rcases hv with rfl | rfl <;> exact one_map _

theorem clone_spec {h : Heap} {c p : Nat} {F : Fs} (hs : SideAt h c p F) :
    HC Tryz.prog 52 #[.agg #[.map (some c), .map (some p)]] h
      fun v h' => Keep h.size h h' ∧ ∃ c' p', v = .agg #[.map (some c'), .map (some p')] ∧ SideAt h' c' p' F ∧ h.size ≤ c' ∧ h.size ≤ p' ∧ c' ≠ p' := by
  obtain ⟨mc, mp, hc, hp, hl⟩ := hs
  refine HC_of_vc (args := [.agg #[.map (some c), .map (some p)]]) (base := 10) (cuts := []) (bigs := []) hm Tryz.func52 ?_
  rw [vcClone]
  generalize hH : ((Array.push h (Obj.cells (Array.mk [Value.map (some c), Value.map (some p)]) 94)).push (Obj.cells (Array.mk [Value.map none, Value.map none]) 94)) = H
  have b0 : H[h.size]? = some (Obj.cells (Array.mk [Value.map (some c), Value.map (some p)]) 94) := by rw [← hH]; exact push2_0 _ _ _
  have b1 : H[h.size + 1]? = some (Obj.cells (Array.mk [Value.map none, Value.map none]) 94) := by rw [← hH]; exact push2_1 _ _ _
  have kH : Keep h.size h H := by rw [← hH]; exact (keep_push h _).trans (Keep.push _ _ _ (by simp))
  have sH : H.size = h.size + 2 := by rw [← hH]; simp
  clear hH
  simp only [Array.size_push]
  refine ⟨fun h' => h'[h.size]? = some (Obj.cells (Array.mk [Value.map (some c), Value.map (some p)]) 94), b0, some c, reads_load scMc (cell_cells0 b0 rfl), (clone_mapC (hc.keep kH)).mono ?_⟩
  rintro v h3 ⟨k3, rfl, m3, s3⟩
  have e3 := k3.at b0 (by omega)
  refine ⟨_, rfl, e3, some p, fun h6 e6 => reads_load scMp (cell_cells e6 rfl), (clone_mapP ((hp.keep kH).keep k3)).mono ?_⟩
  rintro v h8 ⟨k8, rfl, m8, s8⟩
  have e8 := k8.at e3 (by omega)
  refine ⟨_, rfl, ?_⟩
  refine svc_store_own (b := h.size + 1) (T := 94) (old := Array.mk [Value.map none, Value.map none]) szSide (k8.at (k3.at b1 (by omega)) (by omega)) rfl (side_cells _ _) fun h11 s11 b11 u11 => ?_
  have uu := upd_of_one s11 u11
  refine ⟨some H.size, some h3.size, (reads_load_agg (p := ⟨h.size + 1, 0, none⟩) (cs := [Value.map (some H.size), Value.map (some h3.size)]) agSide rfl (cells_all b11)), ?_⟩
  refine ⟨kH.trans ((k3.mono kH.size).trans ((k8.mono (by omega)).trans ⟨by omega, fun i hi => u11 i (by omega)⟩)), H.size, h3.size, rfl, ⟨mc, mp, (m3.keep k8).upd uu (by omega), m8.upd uu (by omega), hl⟩, by omega, by omega, by omega⟩

theorem like_nil : Like [] [] [] := ⟨fun n => rfl, fun n i => by simp [mGet, pg, pgs], fun n i h => by cases h⟩
theorem new_ok (room : Int) : Ok (new room) :=
  ⟨List.Pairwise.nil, List.Pairwise.nil, by show (min (max room 0) 4096).toNat ≤ 4096; omega, Nat.zero_le _, fun n => Nat.le_refl _, fun w hw => (by cases hw), fun n p hp => (by cases hp), fun n p hp => (by cases hp), Nat.zero_le _, ⟨Int.le_refl 0, by show (0 : Int) < _; decide⟩⟩
theorem new_spec (h : Heap) (room : Int) :
    HC Tryz.prog 16 #[.int .i64 room] h fun v h' => Keep h.size h h' ∧ ∃ d, v = .pointer (some ⟨d, 0, none⟩) ∧ DiskAt h' d (new room) fun b => h.size ≤ b ∧ b < h'.size := by
  refine HC_of_vc (args := [.int .i64 room]) (base := 15) (cuts := []) (bigs := []) hm Tryz.func16 ?_
  rw [vcNew]
  generalize hH : ((Array.push h (Obj.map (Array.mk []) 0)).push (Obj.map (Array.mk []) 0)) = H
  have m0 : MapAt Mc H h.size [] := by rw [← hH]; exact ⟨#[], 0, push2_0 _ _ _, rfl, List.nodup_nil, by simp, by simp⟩
  have m1 : MapAt Mp H (h.size + 1) [] := by rw [← hH]; exact ⟨#[], 0, push2_1 _ _ _, rfl, List.nodup_nil, by simp, by simp⟩
  have kH : Keep h.size h H := by rw [← hH]; exact (keep_push h _).trans (Keep.push _ _ _ (by simp))
  have sH : H.size = h.size + 2 := by rw [← hH]; simp
  clear hH
  simp only [Array.size_push]
  refine svc_store_new (v := .agg _) szSide rfl (side_cells _ _) ?_
  have b2 := push_at H (Obj.cells (Value.cells (.agg (Array.mk [Value.map (some h.size), Value.map (some (h.size + 1))]))) 94 (0, 0))
  have k1 := keep_push H (Obj.cells (Value.cells (.agg (Array.mk [Value.map (some h.size), Value.map (some (h.size + 1))]))) 94 (0, 0))
  have rd : ∀ {h5 : Heap}, h5[H.size]? = some (Obj.cells (Array.mk [Value.map (some h.size), Value.map (some (h.size + 1))]) 94 (0, 0)) →
      Reads Tryz.prog (Instr.loadAt 94 (.pointer (some ⟨H.size, 0, none⟩))) h5 (.agg (Array.mk [Value.map (some h.size), Value.map (some (h.size + 1))])) := fun h5 =>
    reads_load_agg (cs := [Value.map (some h.size), Value.map (some (h.size + 1))]) agSide rfl (cells_all h5)
  refine ⟨fun h' => h'[H.size]? = some (Obj.cells (Array.mk [Value.map (some h.size), Value.map (some (h.size + 1))]) 94 (0, 0)), b2, some h.size, some (h.size + 1), fun h5 e5 => rd e5, _, _, rd b2, ?_⟩
  have s1 : SideAt (H.push (Obj.cells (Value.cells (.agg (Array.mk [Value.map (some h.size), Value.map (some (h.size + 1))]))) 94 (0, 0))) h.size (h.size + 1) [] := ⟨[], [], m0.keep k1, m1.keep k1, like_nil⟩
  refine (clone_spec s1).mono ?_
  rintro v h9 ⟨k9, c', p', rfl, s9, l1, l2, l3⟩
  have e9 := k9.at b2 (by simp)
  have z9 := k9.size
  simp only [Array.size_push] at l1 l2 z9
  refine ⟨_, _, rfl, e9, _, fun _ _ => reads_max, _, fun _ _ => reads_min, ?_⟩
  have kp := keep_push h9 (Obj.cells (Array.mk (diskC h.size (h.size + 1) c' p' none 0 0 (new room))) 98 (0, 0))
  have hr : (if (4096 : Int) < (if (0 : Int) > room then 0 else room) then 4096 else (if (0 : Int) > room then 0 else room)) = (new room).room := by
    show _ = ((min (max room 0) 4096).toNat : Int)
    split <;> split <;> omega
  have ebox : (Obj.cells (Array.mk [Value.map (some h.size), Value.map (some (h.size + 1)), Value.map (some c'), Value.map (some p'), Value.slice none 0 0, Value.int IntKind.i64 (if (4096 : Int) < (if (0 : Int) > room then 0 else room) then 4096 else (if (0 : Int) > room then 0 else room)), Value.bool false, Value.int IntKind.i64 0, Value.int IntKind.i64 0, Value.int IntKind.u64 0]) 98 (0, 0)) = Obj.cells (Array.mk (diskC h.size (h.size + 1) c' p' none 0 0 (new room))) 98 (0, 0) := by
    rw [hr]; rfl
  rw [ebox]
  have kk : Keep h.size h (h9.push (Obj.cells (Array.mk (diskC h.size (h.size + 1) c' p' none 0 0 (new room))) 98 (0, 0))) :=
    kH.trans ((k1.mono (by omega)).trans ((k9.mono (by simp; omega)).trans (kp.mono (by omega))))
  have s19 : SideAt h9 h.size (h.size + 1) [] := s1.upd (k9.upd fun _ => False) (fun h => h) (fun h => h)
  refine ⟨kk, h9.size, rfl, fun b hb => by simpa using hb.2, h.size, h.size + 1, c', p', none, 0, 0, ⟨push_at _ _, s19.upd (kp.upd fun _ => False) (fun h => h) (fun h => h), s9.upd (kp.upd fun _ => False) (fun h => h) (fun h => h), Own.nil _ _ _, ?_, new_ok room⟩, ?_⟩
  · simp; omega
  · have := s9.lt
    rintro b (rfl | rfl | rfl | rfl | rfl | ⟨q, e, _⟩)
    all_goals first | (cases e) | omega | (simp only [Array.size_push]; omega)

theorem on_spec {h : Heap} {d : Nat} {x : D} {O : Nat → Prop} (hd : DiskAt h d x O) :
    HC Tryz.prog 29 #[.pointer (some ⟨d, 0, none⟩)] h fun v h' => DiskAt h' d (on x) O ∧ Upd O h h' ∧ v = .tuple #[] := by
  obtain ⟨hO, c1, p1, c2, p2, A, n, c, hp, hb⟩ := hd
  refine HC_of_vc (args := [.pointer (some ⟨d, 0, none⟩)]) (base := 7) (cuts := []) (bigs := []) hm Tryz.func29 ?_
  rw [vcOn]
  refine ⟨_, reads_neq_nil undD, br_intro (fun _ => ⟨_, rfl, svc_store_box szB hp.box (by simp [diskC]) rfl (one_bool _) fun h3 s3 b3 u3 => ?_⟩) fun e => by cases e⟩
  exact ⟨⟨fun b h0 => by rw [s3]; exact hO b h0, c1, p1, c2, p2, A, n, c, hp.store (A' := A) (n' := n) (m' := c) b3 (by simp [diskC, on]) u3 rfl rfl rfl ⟨hp.ok.now, hp.ok.safe, hp.ok.room, hp.ok.tot, hp.ok.fewer, hp.ok.waits, hp.ok.pnow, hp.ok.psafe, hp.ok.fuse, hp.ok.keep⟩, hb⟩,
    u3.of_sub fun i _ e => e ▸ hb d (.inl rfl), rfl⟩
theorem arm_spec {h : Heap} {d : Nat} {x : D} {O : Nat → Prop} {n keep : Int} (hd : DiskAt h d x O) (hn : n ≤ 9223372036854775807) (hk : 0 ≤ keep ∧ keep < 18446744073709551616) :
    HC Tryz.prog 25 #[.pointer (some ⟨d, 0, none⟩), .int .i64 n, .int .u64 keep] h fun v h' => DiskAt h' d (arm x n keep) O ∧ Upd O h h' ∧ v = .tuple #[] := by
  obtain ⟨hO, c1, p1, c2, p2, A, m, c, hp, hb⟩ := hd
  refine HC_of_vc (args := [.pointer (some ⟨d, 0, none⟩), .int .i64 n, .int .u64 keep]) (base := 17) (cuts := []) (bigs := []) hm Tryz.func25 ?_
  rw [vcArm]
  refine ⟨_, reads_neq_nil undD, br_intro (fun _ => ⟨_, reads_max, _, rfl, svc_store_box szI hp.box (by simp [diskC]) rfl (one_int _ _) fun h4 s4 b4 u4 => ⟨_, rfl, svc_store_box szU b4 (by simp [diskC]) rfl (one_int _ _) fun h7 s7 b7 u7 => ?_⟩⟩) fun e => by cases e⟩
  refine ⟨⟨fun b h0 => by rw [s7, s4]; exact hO b h0, c1, p1, c2, p2, A, m, c, hp.store (A' := A) (n' := m) (m' := c) b7 ?_ (u4.trans u7) rfl rfl rfl ⟨hp.ok.now, hp.ok.safe, hp.ok.room, hp.ok.tot, hp.ok.fewer, hp.ok.waits, hp.ok.pnow, hp.ok.psafe, by show n.toNat ≤ _; omega, hk⟩, hb⟩,
    (u4.trans u7).of_sub fun i _ e => e ▸ hb d (.inl rfl), rfl⟩
  have : (if (0 : Int) > n then 0 else n) = (n.toNat : Int) := by split <;> omega
  simp [diskC, arm, this]
theorem count_spec {h : Heap} {d : Nat} {x : D} {O : Nat → Prop} (hd : DiskAt h d x O) (s : Str) :
    HC Tryz.prog 74 #[.pointer (some ⟨d, 0, none⟩), .string s] h fun v h' => h' = h ∧ v = .int .i64 (count x s) := by
  have hr := ready_spec hd
  obtain ⟨hO, c1, p1, c2, p2, A, m, c, hp, hb⟩ := hd
  obtain ⟨mc, mp, hc, hmp, hl⟩ := hp.now
  refine HC_of_vc (args := [.pointer (some ⟨d, 0, none⟩), .string s]) (base := 15) (cuts := []) (bigs := []) hm Tryz.func74 ?_
  rw [vcCount]
  refine hr.mono ?_
  rintro v h1 ⟨rfl, rfl⟩
  refine ⟨_, rfl, br_intro (fun e => ⟨rfl, ?_⟩) fun e => ⟨_, rfl, _, reads_load scMc (cell_cells0 hp.box rfl), _, reads_count hc hl s, rfl, ?_⟩⟩
  · unfold count; cases hdn : x.down <;> simp [hdn] at e ⊢
  · unfold count; cases hdn : x.down <;> simp [hdn] at e ⊢
theorem has_spec {h : Heap} {d : Nat} {x : D} {O : Nat → Prop} (hd : DiskAt h d x O) (s : Str) :
    HC Tryz.prog 56 #[.pointer (some ⟨d, 0, none⟩), .string s] h fun v h' => h' = h ∧ v = .bool (has x s) := by
  have hr := ready_spec hd
  obtain ⟨hO, c1, p1, c2, p2, A, m, c, hp, hb⟩ := hd
  obtain ⟨mc, mp, hc, hmp, hl⟩ := hp.now
  refine HC_of_vc (args := [.pointer (some ⟨d, 0, none⟩), .string s]) (base := 21) (cuts := []) (bigs := []) hm Tryz.func56 ?_
  rw [vcHas]
  refine hr.mono ?_
  rintro v h1 ⟨rfl, rfl⟩
  refine ⟨_, rfl, br_intro (fun e => ⟨rfl, ?_⟩) fun e => ⟨_, rfl, _, reads_load scMc (cell_cells0 hp.box rfl), _, _, reads_count2 hc hl s, rfl, ?_⟩⟩
  · unfold has; cases hdn : x.down <;> simp [hdn] at e ⊢
  · unfold has; cases hdn : x.down <;> simp [hdn] at e ⊢
theorem pgC_bytes {q : Str} (hq : q.size = 512) : pgC q = (bytesL q).map fun b => Value.int .u8 (b.toNat : Nat) := by
  have hq' : q.data.size = 512 := hq
  apply List.ext_getElem?
  intro j
  simp only [pgC, List.getElem?_map, bytesL, Array.getElem?_toList]
  by_cases hj : j < 512
  · simp [List.getElem?_range hj, Array.getD, hq', hj]
  · simp [hq', hj]
theorem read_spec {h : Heap} {d : Nat} {x : D} {O : Nat → Prop} (hd : DiskAt h d x O) (s : Str) (i : Int) :
    HC Tryz.prog 94 #[.pointer (some ⟨d, 0, none⟩), .string s, .int .i64 i] h
      fun v h' => Keep h.size h h' ∧ ∃ b m, v = .tuple #[.slice (if m = 0 then none else some ⟨b, 0, none⟩) m m, .int .i64 (Dk.read x s i).2] ∧ m = (Dk.read x s i).1.size ∧ h.size ≤ b ∧
        (m ≠ 0 → h'[b]? = some (.cells (((bytesL (Dk.read x s i).1).map fun b => Value.int .u8 (b.toNat : Nat))).toArray 103 (0, 0))) := by
  have hr := ready_spec hd
  obtain ⟨hO, c1, p1, c2, p2, A, m, c, hp, hb⟩ := hd
  obtain ⟨mc, mp, hc, hmp, hl⟩ := hp.now
  refine HC_of_vc (args := [.pointer (some ⟨d, 0, none⟩), .string s, .int .i64 i]) (base := 38) (cuts := []) (bigs := []) hm Tryz.func94 ?_
  rw [vcRead]
  refine hr.mono ?_
  rintro v h1 ⟨rfl, rfl⟩
  refine ⟨_, rfl, br_intro (fun e => ?_) fun e => ⟨_, fun _ => rfl, _, fun _ => reads_load scMc (cell_cells0 hp.box rfl), _, fun _ => reads_count hc hl s, br_intro (fun e2 => ?_) fun e2 => ?_⟩⟩
  · have hdn : x.down = true := by cases hdn : x.down <;> simp [hdn] at e ⊢
    exact ⟨Keep.refl _ _, h1.size, 0, by simp [Dk.read, hdn], by simp [Dk.read, hdn]; rfl, Nat.le_refl _, fun h => absurd rfl h⟩
  · have hdn : x.down = false := by cases hdn : x.down <;> simp [hdn] at e ⊢
    have e2 : i < 0 ∨ ((pgs x.now s).length : Int) ≤ i := by simpa using e2
    exact ⟨Keep.refl _ _, h1.size, 0, by simp [Dk.read, hdn, e2], by simp [Dk.read, hdn, e2]; rfl, Nat.le_refl _, fun h => absurd rfl h⟩
  · have hdn : x.down = false := by cases hdn : x.down <;> simp [hdn] at e ⊢
    have e2 : ¬ (i < 0 ∨ ((pgs x.now s).length : Int) ≤ i) := by simpa using e2
    have hpg : pg x.now s i = (pgs x.now s).getD i.toNat zp := by unfold pg; rw [if_pos (by omega)]
    have hlt : i.toNat < (pgs x.now s).length := by omega
    have h512 : (pg x.now s i).size = 512 := by
      rw [hpg, List.getD_eq_getElem?_getD, List.getElem?_eq_getElem hlt]
      exact hp.ok.pnow s _ (List.getElem_mem hlt)
    have hrd : Dk.read x s i = (pg x.now s i, 0) := by rw [hpg]; simp only [Dk.read, hdn, Bool.false_eq_true, if_false, if_neg e2]
    refine ⟨_, rfl, _, reads_load scMp (hp.rd rfl), _, reads_page hmp hl s i, zc Tryz.prog 103, ⟨rfl⟩, svc_store_new (v := pv (pg x.now s i)) ?_ ?_ ?_ ?_⟩
    · show szOf _ _ = some (pgC _).toArray.size; rw [List.size_toArray, pgC_len]; exact szPage
    · show _ = (pgC _).toArray.size; exact zcPage.trans (pgC_len _).symm
    · exact pgC_one _
    · refine ⟨by omega, keep_push _ _, h1.size, 512, ?_, by rw [hrd, h512], Nat.le_refl _, fun _ => ?_⟩
      · rw [hrd]; simp [subA, Addr.add]
      · rw [hrd, ← pgC_bytes h512]; exact push_at _ _
end Go.Proofs.YthkhaobmhheoaaaGreat
end

section
set_option linter.unusedVariables false
set_option linter.unusedSimpArgs false
set_option maxRecDepth 100000
namespace Go.Proofs.YthkhaobmhheoaaaGreat
open Go Go.Vc Go.Proofs Go.Dk

theorem Like.names {F : Fs} {mc : List (Str × Int)} {mp : List ((Str × Int) × Str)} (hl : Like F mc mp) (q : Str) : q ∈ names F ↔ q ∈ mKeys mc := by
  rw [← Classical.not_not (a := q ∈ Dk.names F), ← Classical.not_not (a := q ∈ mKeys mc), ← mGet_none, ← mGet_none, hl.count]
  cases mGet F q <;> simp
theorem Like.add {F : Fs} {mc : List (Str × Int)} {mp : List ((Str × Int) × Str)} (hl : Like F mc mp) (hF : SrtF F) (n : Str) (hn : mGet F n = none) : Like (put n [] F) (mPut mc n 0) mp := by
  have hp : ∀ m, pgs (put n [] F) m = pgs F m := fun m => by
    rw [Dk.pgs_put hF]; split
    · rename_i e; subst e; simp [pgs, hn]
    · rfl
  refine ⟨fun m => ?_, fun m i => ?_, fun m i hi => ?_⟩
  · rw [mGet_put, get_put hF]
    by_cases e : n = m
    · subst e; simp
    · rw [if_neg e, if_neg (Ne.symm e)]; exact hl.count m
  · have := hl.page m i; unfold pg at this ⊢; rw [hp]; exact this
  · rw [hp]; exact hl.there m i hi

theorem WtE_at {w : Wt} {h : Heap} {b : Nat} (hb : h[b]? = some (.cells (WtE.enc w).toArray 105 (0, 0))) :
    Reads Tryz.prog (Instr.loadAt 101 (.pointer (some ⟨b, 0, none⟩))) h (.agg (Array.mk [.string w.n, .int .i64 w.i])) ∧
    Reads Tryz.prog (Instr.loadAt 103 (.pointer (some ((⟨b, 0, none⟩ : Addr).add 2)))) h (pv w.p) := by
  refine ⟨reads_load_agg (cs := [.string w.n, .int .i64 w.i]) agAt rfl fun j v hj => ?_, reads_load_agg (cs := pgC w.p) agPage (pgC_len _) (cells_part hb fun j v hj => ?_)⟩
  · refine cell_cells hb ?_
    match j, hj with
    | 0, hj => simpa [WtE] using hj
    | 1, hj => simpa [WtE] using hj
    | j + 2, hj => simp at hj
  · show (Value.string w.n :: .int .i64 w.i :: pgC w.p)[2 + j]? = some v
    rw [Nat.add_comm]; exact hj
theorem WtE_one (w : Wt) : oneCells (WtE.enc w) := fun v hv => WtE.one w v hv
/-- a write that came out of the row goes into a box of its own. -/
theorem svc_store_wt {h : Heap} {z : Array Value} {w : Wt} {K : Unit → Heap → Prop} (hz : IsZ Tryz.prog 105 z) (k : K () (h.push (.cells (WtE.enc w).toArray 105 (0, 0)))) :
    SVC Tryz.prog (Instr.storeAt 105 (.pointer (some ⟨h.size, 0, none⟩)) (.agg (WtE.enc w).toArray)) (h.push (.cells z 105 (0, 0))) K := by
  have hl := WtE.len w
  refine svc_store_new (v := .agg (WtE.enc w).toArray) ?_ ?_ (WtE_one w) k
  · show szOf _ _ = some (WtE.enc w).toArray.size; rw [List.size_toArray, hl]; exact szWrite
  · show z.size = (WtE.enc w).length; rw [hz.eq, hl]; exact zcWrite
theorem reads_wt {h : Heap} {A : Option Addr} {n c k : Nat} {ws : List Wt} {w : Wt} (ho : Sl WtE h A n ws) (hw : ws[k]? = some w) : ∃ p, A = some p ∧
    Reads Tryz.prog (Instr.loadAt 105 (.pointer (some (p.add (k * 514))))) h (.agg (WtE.enc w).toArray) := by
  obtain ⟨p, hA, hc⟩ := ho.get hw
  refine ⟨p, hA, reads_load_agg agWrite (WtE.len w) fun j v hj => ?_⟩
  rw [Addr.add_add]; exact hc j v hj

theorem DiskP.side1 {h : Heap} {d c1 p1 c2 p2 : Nat} {A : Option Addr} {n c : Nat} {x : D} (hp : DiskP h d c1 p1 c2 p2 A n c x) :
    Reads Tryz.prog (Instr.loadAt 94 (.pointer (some ⟨d, 0, none⟩))) h (.agg (Array.mk [.map (some c1), .map (some p1)])) :=
  reads_load_agg (cs := [.map (some c1), .map (some p1)]) agSide rfl fun j v hj => cell_cells hp.box (by
    match j, hj with
    | 0, hj => simpa [diskC] using hj
    | 1, hj => simpa [diskC] using hj
    | j + 2, hj => simp at hj)
theorem DiskP.side2 {h : Heap} {d c1 p1 c2 p2 : Nat} {A : Option Addr} {n c : Nat} {x : D} (hp : DiskP h d c1 p1 c2 p2 A n c x) :
    Reads Tryz.prog (Instr.loadAt 94 (.pointer (some ((⟨d, 0, none⟩ : Addr).add 2)))) h (.agg (Array.mk [.map (some c2), .map (some p2)])) :=
  reads_load_agg (cs := [.map (some c2), .map (some p2)]) agSide rfl (cells_part hp.box fun j v hj => by
    match j, hj with
    | 0, hj => simpa [diskC] using hj
    | 1, hj => simpa [diskC] using hj
    | j + 2, hj => simp at hj)
/-- the safe side has turned. -/
theorem DiskP.safe_turn {h h' : Heap} {d c1 p1 c2 p2 : Nat} {A : Option Addr} {n c : Nat} {x : D} {G : Fs} (hp : DiskP h d c1 p1 c2 p2 A n c x) (u : Upd (two c2 p2) h h') (hs : SideAt h' c2 p2 G) (ok : Ok { x with safe := G }) :
    DiskP h' d c1 p1 c2 p2 A n c { x with safe := G } := by
  obtain ⟨q1, q2, q3, q4⟩ := hp.ne_map
  have nd := hp.nd
  simp at nd
  refine ⟨u.at hp.box ?_, hp.now.upd u ?_ ?_, hs, hp.waits.upd u fun b hb => ?_, hp.nd, ok⟩
  · rintro (e | e) <;> omega
  · rintro (e | e) <;> omega
  · rintro (e | e) <;> omega
  · have := hp.ne_waits hb
    rintro (e | e) <;> omega
theorem two_blks2 {d c1 p1 c2 p2 : Nat} {A : Option Addr} : ∀ b, two c2 p2 b → blks d c1 p1 c2 p2 A b := fun b h => h.elim (fun e => .inr (.inr (.inr (.inl e)))) fun e => .inr (.inr (.inr (.inr (.inl e))))
theorem two_blks1 {d c1 p1 c2 p2 : Nat} {A : Option Addr} : ∀ b, two c1 p1 b → blks d c1 p1 c2 p2 A b := fun b h => h.elim (fun e => .inr (.inl e)) fun e => .inr (.inr (.inl e))

theorem off_spec {h : Heap} {d : Nat} {x : D} {O : Nat → Prop} {keep : Int} (hd : DiskAt h d x O) (hk : 0 ≤ keep ∧ keep < 18446744073709551616) (hwn : x.waits.length ≤ 1073741824) :
    HC Tryz.prog 31 #[.pointer (some ⟨d, 0, none⟩), .int .u64 keep] h
      fun v h' => ∃ O', DiskAt h' d (off keep x) O' ∧ (∀ b, O' b → O b ∨ h.size ≤ b) ∧ Upd O h h' ∧ v = .tuple #[] := by
  have hr := ready_spec hd
  obtain ⟨hO, c1, p1, c2, p2, A, n, c, hp, hb⟩ := hd
  refine HC_of_vc (args := [.pointer (some ⟨d, 0, none⟩), .int .u64 keep]) (base := 83) (cuts := []) (bigs := []) hm Tryz.func31 ?_
  rw [vcOff]
  refine hr.mono ?_
  rintro v h1 ⟨rfl, rfl⟩
  refine ⟨_, rfl, br_intro (fun e => ?_) (fun e => ?_)⟩
  · have hdn : x.down = true := by cases hdn : x.down <;> simp [hdn] at e ⊢
    refine ⟨O, ?_, fun b h => .inl h, Upd.refl _ _, rfl⟩
    unfold off; rw [if_pos hdn]
    exact ⟨hO, c1, p1, c2, p2, A, n, c, hp, hb⟩
  have hdn : x.down = false := by cases hdn : x.down <;> simp [hdn] at e ⊢
  have hn : x.waits.length = n := hp.waits.1
  have hc1 := hp.now.lt.1
  refine ⟨_, rfl, A, n, c, reads_load scWs (hp.rd rfl), ?_⟩
  refine ⟨fun n9 h10 => ∃ k : Nat, n9 = k ∧ k ≤ n ∧ DiskP h10 d c1 p1 c2 p2 A n c { x with safe := keepW keep 0 (x.waits.take k) x.safe } ∧ Upd (blks d c1 p1 c2 p2 A) h1 h10,
    fun n9 _ => n - n9.toNat, ⟨0, rfl, by omega, by simpa [keepW] using hp, Upd.refl _ _⟩, ?_⟩
  rintro n9 h10 ⟨k, rfl, hkn, hpk, uk⟩
  refine br_intro (fun hlt => ?_) (fun hge => ?_)
  · have hlt : k < n := by simpa using hlt
    have hw : x.waits[k]? = some (x.waits[k]'(by omega)) := List.getElem?_eq_getElem (by omega)
    generalize x.waits[k]'(by omega) = w at hw
    have hmem : w ∈ x.waits := List.mem_of_getElem? hw
    obtain ⟨q, hA, hq⟩ := reads_wt (c := c) hpk.waits.sl hw
    refine ⟨q, ⟨hA, by omega, by omega⟩, _, hq, zc Tryz.prog 105, ⟨rfl⟩, svc_store_wt ⟨rfl⟩ ?_⟩
    have hat := push_at h10 (.cells (WtE.enc w).toArray 105 (0, 0))
    have kq := keep_push h10 (.cells (WtE.enc w).toArray 105 (0, 0))
    have hpq := hpk.upd (kq.upd fun _ => False) fun _ _ h => h
    have hstep := keepW_take keep x.waits 0 k x.safe w hw
    rw [Nat.zero_add] at hstep
    have uq := uk.trans (kq.upd (blks d c1 p1 c2 p2 A))
    have hwr : IntKind.i64.wrap ((k : Int) + 1) = ((k + 1 : Nat) : Int) := by rw [wrap_i64 (by omega) (by omega)]; rfl
    refine ⟨by decide, by rw [Int.tmod_eq_emod_of_nonneg (by omega)]; omega, ?_⟩
    rw [kept_eq hk k, hwr]
    refine br_intro (fun hkp => ?_) (fun hkp => ?_)
    · rw [if_pos hkp] at hstep
      obtain ⟨r1, r2⟩ := WtE_at hat
      have nd := hpq.nd
      simp at nd
      have hwi := hp.ok.waits w hmem
      have hbd : w.i < 4611686018427387904 := by
        have h1 := hp.ok.tot
        have h2 := hp.ok.room
        have h3 := tot_put hp.ok.now w.n []
        have h4 := hwi.1
        simp at h3
        omega
      refine ⟨_, rfl, some c2, some p2, hpq.side2, w.n, (w.i : Int), r1, _, r2, (set_spec hpq.safe hpq.ok.safe (by omega) hbd).mono ?_⟩
      rintro v h23 ⟨s23, u23, rfl⟩
      refine ⟨rfl, ⟨k + 1, rfl, hlt, ?_, uq.trans (u23.mono two_blks2)⟩, by dsimp only; omega⟩
      rw [hstep]
      exact hpq.safe_turn u23 s23 (ok_app1 hpq.ok hmem)
    · rw [if_neg (by simpa using hkp)] at hstep
      refine ⟨⟨k + 1, rfl, hlt, ?_, uq⟩, by dsimp only; omega⟩
      rw [hstep]; exact hpq
  have hkn' : k = n := by have : ¬ (k : Int) < n := by simpa using hge
                          omega
  subst hkn'
  rw [← hn, List.take_length] at hpk
  rw [hn] at hpk
  obtain ⟨mc, mp, hc, hmp, hl⟩ := hpk.now
  refine ⟨_, rfl, some c1, reads_load scMc (cell_cells0 hpk.box rfl), svc_range (M := Mc) hc fun h27 k27 s27 i27 => ⟨_, rfl, ?_⟩⟩
  have hu10 := uk.size
  refine ⟨fun h31 => ∃ left cur dn, IterAt Mc h31 h10.size c1 mc left cur ∧ DiskP h31 d c1 p1 c2 p2 A k c { x with safe := dn.foldl addN (keepW keep 0 x.waits x.safe) } ∧
      Upd (blks d c1 p1 c2 p2 A) h1 h31 ∧ (∀ q, q ∈ names x.now ↔ q ∈ dn ∨ q ∈ mKeys left), fun h31 => leftN h31 h10.size,
    ⟨mc, none, [], i27, hpk.upd (k27.upd fun _ => False) (fun _ _ h => h), uk.trans (k27.upd _), fun q => by rw [hl.names]; simp⟩, ?_⟩
  rintro h31 ⟨left, cur, dn, hit, hpl, ul, hnm⟩
  have hl31 := hit.lt
  refine svc_next hit (fun hl0 => .inl ⟨rfl, ?_⟩) fun j q h33 hj u33 s33 i33 => .inr ⟨_, _, rfl, ?_⟩
  · subst hl0
    have hoff : dn.foldl addN (keepW keep 0 x.waits x.safe) = offS keep x := addAll_ext (ok_keepW keep x.waits 0 (G := x.safe) hp.ok fun _ h => h).safe fun q => by rw [hnm q]; simp [mKeys]
    rw [hoff] at hpl
    refine ⟨_, rfl, _, _, hpl.side2, (clone_spec hpl.safe).mono ?_⟩
    rintro v h38 ⟨k38, c', p', rfl, s38, l1, l2, l3⟩
    have hp38 := hpl.upd (k38.upd fun _ => False) fun _ _ h => h
    have z38 := k38.size
    refine ⟨_, _, rfl, _, rfl, svc_store_at (v := .agg (Array.mk [.map (some c'), .map (some p')])) szSide hp38.box (by simp [diskC, Value.cells]) (side_cells _ _) fun h43 s43 b43 u43 => ⟨_, rfl,
      svc_store_box szWs b43 (by simp [diskC, Value.cells, putL]) rfl (one_slice _ _ _) fun h46 s46 b46 u46 => ⟨_, rfl, svc_store_box szB b46 (by simp [diskC, Value.cells, putL]) rfl (one_bool _) fun h49 s49 b49 u49 => ⟨_, rfl,
      svc_store_box szI b49 (by simp [diskC, Value.cells, putL]) rfl (one_int _ _) fun h52 s52 b52 u52 => ?_⟩⟩⟩⟩
    have ub := ((u43.trans u46).trans (u49.trans u52))
    have zb : h52.size = h38.size := by omega
    have nm := hpl.ne_map
    have nd := hpl.nd
    simp at nd
    have lt2 := hpl.safe.lt
    have ld := at_lt hpl.box
    have hOd := hb d (.inl rfl)
    have uall : Upd O h1 h52 := (ul.mono hb).trans ((k38.upd O).trans (ub.mono fun b e => e ▸ hOd))
    refine ⟨fun b => O b ∨ (h1.size ≤ b ∧ b < h52.size), ⟨fun b h0 => ?_, c', p', c2, p2, none, 0, 0, ⟨?_, ?_, ?_, ?_, ?_, ok_off hp.ok keep⟩, ?_⟩, fun b h0 => h0.imp id (·.1), uall, rfl⟩
    · rcases h0 with h0 | h0
      · exact Nat.lt_of_lt_of_le (hO b h0) uall.size
      · exact h0.2
    · rw [b52]; simp [diskC, Value.cells, putL, off, hdn]
    · have : (off keep x).now = offS keep x := by simp [off, hdn]
      rw [this]; exact s38.upd ub (by omega) (by omega)
    · have : (off keep x).safe = offS keep x := by simp [off, hdn]
      rw [this]; exact hp38.safe.upd ub (by omega) (by omega)
    · have : (off keep x).waits = [] := by simp [off, hdn]
      rw [this]; exact Own.nil _ _ _
    · simp; omega
    · have l38 := s38.lt
      rintro b (rfl | rfl | rfl | rfl | rfl | ⟨a, e, _⟩)
      · exact .inl hOd
      · exact .inr ⟨by have := ul.size; omega, by omega⟩
      · exact .inr ⟨by have := ul.size; omega, by omega⟩
      · exact .inl (hb _ (.inr (.inr (.inr (.inl rfl)))))
      · exact .inl (hb _ (.inr (.inr (.inr (.inr (.inl rfl))))))
      · cases e
  · have hnit : ∀ b, blks d c1 p1 c2 p2 A b → ¬ b = h10.size := fun b hb0 e => by have := hpk.lt hb0; omega
    have hp33 := hpl.upd u33 hnit
    have hmj := mem_erase left j q hj
    have hlt := (List.getElem?_eq_some_iff.1 hj).1
    have hlen : (left.eraseIdx j).length < left.length := by rw [List.length_eraseIdx, if_pos hlt]; omega
    have ul33 : Upd (blks d c1 p1 c2 p2 A) h1 h33 := ⟨by have := ul.size; omega, fun b hb1 hb2 => (u33.block b (by have := ul.size; omega) (by omega)).trans (ul.block b hb1 hb2)⟩
    · obtain ⟨mc2, mp2, hc2, hmp2, hl2⟩ := hp33.safe
      refine ⟨q.1, _, reads_entry i33, _, rfl, some c2, reads_load scMc (hp33.rd rfl), _, _, reads_count2 hc2 hl2 q.1, br_intro (fun hb1 => ?_) (fun hb1 => ?_)⟩
      · have hnone : mGet (dn.foldl addN (keepW keep 0 x.waits x.safe)) q.1 = none := by simpa using hb1
        refine ⟨_, rfl, some c2, reads_load scMc (hp33.rd rfl), svc_mapUpdate (M := Mc) (k := q.1) (v := 0) hc2 fun h64 s64 u64 m64 => ?_⟩
        have nd := hp33.nd
        simp at nd
        have i64 := i33.upd u64 (by have := hpk.safe.lt; omega) (by omega)
        have u64' : Upd (two c2 p2) h33 h64 := u64.mono fun b e => .inl e
        refine ⟨⟨left.eraseIdx j, some q, dn ++ [q.1], i64, ?_, ul33.trans (u64'.mono two_blks2), fun r => ?_⟩, ?_⟩
        · rw [List.foldl_append, List.foldl_cons, List.foldl_nil]
          refine hp33.safe_turn u64' ?_ (ok_addN hp33.ok q.1)
          rw [addN_none hnone]
          exact ⟨_, _, m64, hmp2.upd u64 (by omega), hl2.add hp33.ok.safe q.1 hnone⟩
        · rw [hnm r, hmj r, List.mem_append, List.mem_singleton]
          exact ⟨fun h => h.elim (fun h => .inl (.inl h)) (fun h => h.elim (fun h => .inl (.inr h)) .inr), fun h => h.elim (fun h => h.elim .inl (fun h => .inr (.inl h))) (fun h => .inr (.inr h))⟩
        · dsimp only; rw [i64.leftN, hit.leftN]; exact hlen
      · refine ⟨⟨left.eraseIdx j, some q, dn ++ [q.1], i33, ?_, ul33, fun r => ?_⟩, ?_⟩
        · rw [List.foldl_append, List.foldl_cons, List.foldl_nil]
          have : addN (dn.foldl addN (keepW keep 0 x.waits x.safe)) q.1 = dn.foldl addN (keepW keep 0 x.waits x.safe) := addN_some (by simpa using hb1)
          rw [this]; exact hp33
        · rw [hnm r, hmj r, List.mem_append, List.mem_singleton]
          exact ⟨fun h => h.elim (fun h => .inl (.inl h)) (fun h => h.elim (fun h => .inl (.inr h)) .inr), fun h => h.elim (fun h => h.elim .inl (fun h => .inr (.inl h))) (fun h => .inr (.inr h))⟩
        · dsimp only; rw [i33.leftN, hit.leftN]; exact hlen
end Go.Proofs.YthkhaobmhheoaaaGreat
end

section
set_option linter.unusedVariables false
set_option linter.unusedSimpArgs false
set_option maxRecDepth 100000
namespace Go.Proofs.YthkhaobmhheoaaaGreat
open Go Go.Vc Go.Proofs Go.Dk

theorem built_wt (s : Str) (k : Nat) : Blt Tryz.prog 105 [(0, .agg (Array.mk [.string s, .int .i64 k]))] (WtE.enc ⟨s, k, zp⟩).toArray :=
  ⟨builtL_eq (cs := WtE.enc ⟨s, k, zp⟩) (by kernel_rfl)⟩
theorem app_wt : App Tryz.prog 96 105 WtE.sz 536 (.agg (zc Tryz.prog 105)) := ⟨by kernel_rfl, by kernel_rfl, by kernel_rfl, by kernel_rfl, zcWrite, by decide, by decide⟩
theorem bs_wt (w : Wt) : bsCells Tryz.prog 96 1 [(0, .agg (WtE.enc w).toArray)] = some (105, WtE.enc w) :=
  bs_one (v := .agg (WtE.enc w).toArray) app_wt.und app_wt.size app_wt.zero app_wt.zlen (by decide) (by decide) (by show (WtE.enc w).length = _; exact WtE.len w)
theorem pgC_zp (n : Nat) (hn : n ≤ 512) : (pgC zp).drop n = List.replicate (512 - n) (Value.int .u8 0) := by
  apply List.ext_getElem?
  intro j
  simp only [List.getElem?_drop, pgC, List.getElem?_map, List.getElem?_replicate]
  by_cases h : j < 512 - n
  · have : n + j < 512 := by omega
    rw [List.getElem?_range this, if_pos h]
    simp [zp, Array.getD, this]
  · rw [List.getElem?_eq_none (by simp; omega), if_neg h]; rfl
theorem pgC_pad {b : Str} (hb : b.size ≤ 512) : (bytesL b).flatMap ByteE.enc ++ (pgC zp).drop b.size = pgC (pad b) := by
  have hs : b.data.size = b.size := rfl
  have hp := pgC_bytes (pad_size hb)
  rw [hp, pgC_zp _ hb]
  have e1 : bytesL (pad b) = bytesL b ++ List.replicate (512 - b.size) 0 := by simp [bytesL, pad]
  have e2 : (bytesL b).flatMap ByteE.enc = (bytesL b).map fun c => Value.int .u8 (c.toNat : Nat) := by
    generalize bytesL b = l
    induction l with
    | nil => rfl
    | cons a l ih => rw [List.flatMap_cons, ih]; rfl
  rw [e1, e2, List.map_append, List.map_replicate]
  rfl
theorem wt_copy {s b : Str} {k : Nat} (hb : b.size ≤ 512) : putL (WtE.enc ⟨s, k, zp⟩) 2 (((bytesL b).take (min b.size 512)).flatMap ByteE.enc) = WtE.enc ⟨s, k, pad b⟩ := by
  have hl : (bytesL b).length = b.size := by show b.data.toList.length = _; rw [Array.length_toList]; rfl
  have hm : min b.size 512 = (bytesL b).length := by omega
  rw [hm, List.take_length]
  have hlen : ((bytesL b).flatMap ByteE.enc).length = b.size := by rw [flat_len, hl]; show b.size * 1 = _; omega
  have := putL_prefix ((bytesL b).flatMap ByteE.enc) [Value.string s, .int .i64 k] (pgC zp) (by rw [hlen, pgC_len]; exact hb)
  show putL ([Value.string s, .int .i64 k] ++ pgC zp) 2 _ = _
  rw [show (2 : Nat) = [Value.string s, Value.int .i64 k].length from rfl, this, hlen, List.append_assoc, pgC_pad hb]
  rfl

theorem write_spec0 {h : Heap} {d : Nat} {x : D} {O : Nat → Prop} {s b : Str} {i : Int} {A : Option Addr} {n c : Nat} (hd : DiskAt h d x O) (hsl : Sl ByteE h A n (bytesL b)) (hA : n ≠ 0 → ∀ q, blk A q → ¬ O q) (hwn : x.waits.length < 1073741824) :
    HC Tryz.prog 17 #[.pointer (some ⟨d, 0, none⟩), .string s, .int .i64 i, .slice A n c] h
      fun v h' => ∃ O', DiskAt h' d (write x s i b).2 O' ∧ (∀ q, O' q → O q ∨ h.size ≤ q) ∧ Upd O h h' ∧ v = .int .i64 (write x s i b).1 := by
  have hr := ready_spec hd
  have hd0 := hd
  obtain ⟨hO, c1, p1, c2, p2, A0, n0, c0, hp, hb⟩ := hd
  obtain ⟨mc, mp, hc, hmp, hl⟩ := hp.now
  have hn : b.size = n := by have := hsl.1; simpa [bytesL] using this
  refine HC_of_vc (args := [.pointer (some ⟨d, 0, none⟩), .string s, .int .i64 i, .slice A n c]) (base := 82) (cuts := [11]) (bigs := []) hm Tryz.func17 ?_
  rw [vcWrite]
  refine hr.mono ?_
  rintro v h1 ⟨rfl, rfl⟩
  have stay : ∀ {h' : Heap} {e : Int}, Keep h1.size h1 h' → write x s i b = (e, x) → ∃ O', DiskAt h' d (write x s i b).2 O' ∧ (∀ q, O' q → O q ∨ h1.size ≤ q) ∧ Upd O h1 h' ∧ Value.int .i64 e = .int .i64 (write x s i b).1 := fun {h' e} k hw => by
    rw [hw]; exact ⟨O, hd0.keep k, fun q h => .inl h, k.upd O, rfl⟩
  refine ⟨_, rfl, br_intro (fun e => ?_) (fun e => ?_)⟩
  · have hdn : x.down = true := by cases hdn : x.down <;> simp [hdn] at e ⊢
    rw [hdn]
    exact stay (Keep.refl _ _) (by simp [write, hdn])
  have hdn : x.down = false := by cases hdn : x.down <;> simp [hdn] at e ⊢
  refine ⟨_, rfl, some c1, reads_load scMc (cell_cells0 hp.box rfl), _, reads_count hc hl s,
    fun _ h11 => Keep h1.size h1 h11 ∧ ¬ 512 < b.size ∧ ¬ (i < 0 ∨ ((pgs x.now s).length : Int) < i) ∧ ¬ (i = (pgs x.now s).length ∧ free x < 1), ?_, ?_⟩
  · refine br_intro (fun e1 => ?_) fun e1 => br_intro (fun e2 => ?_) fun e2 => br_intro (fun e3 => ?_) fun e3 => ?_
    · have e1 : 512 < b.size := by rw [hn]; have : (512 : Int) < n := by simpa using e1
                                   omega
      exact stay (Keep.refl _ _) (by simp [write, hdn, e1])
    all_goals have e1 : ¬ 512 < b.size := by rw [hn]; have : ¬ (512 : Int) < n := by simpa using e1
                                             omega
    · have e2 : i < 0 ∨ ((pgs x.now s).length : Int) < i := by simpa using e2
      exact stay (Keep.refl _ _) (by simp only [write, hdn, Bool.false_eq_true, if_false, if_neg e1, if_pos e2])
    all_goals have e2 : ¬ (i < 0 ∨ ((pgs x.now s).length : Int) < i) := by simpa using e2
    · have e3 : i = (pgs x.now s).length := by simpa using e3
      refine (free_spec hd0).mono ?_
      rintro v h8 ⟨k8, rfl⟩
      refine ⟨_, rfl, br_intro (fun e4 => ?_) fun e4 => ⟨k8, e1, e2, fun h => by have := h.2; simp at e4; omega⟩⟩
      have e4 : free x < 1 := by simpa using e4
      exact stay k8 (by simp only [write, hdn, Bool.false_eq_true, if_false, if_neg e1, if_neg e2, if_pos (And.intro e3 e4)])
    · have e3 : i ≠ (pgs x.now s).length := by simpa using e3
      exact ⟨Keep.refl _ _, e1, e2, fun h => e3 h.1⟩
  rintro _ h11 ⟨k11, g1, g2, g3⟩
  obtain ⟨k, rfl⟩ : ∃ k : Nat, i = k := ⟨i.toNat, by omega⟩
  have hwr : write x s k b = (if goes x then (8, off (act x).keep { act x with now := put s (setP (pgs x.now s) k (pad b)) x.now, waits := x.waits ++ [⟨s, k, pad b⟩] })
      else (0, { act x with now := put s (setP (pgs x.now s) k (pad b)) x.now, waits := x.waits ++ [⟨s, k, pad b⟩] })) := by
    simp only [write, hdn, Bool.false_eq_true, if_false, if_neg g1, if_neg g2, if_neg g3, Int.toNat_natCast]
  rw [hwr]
  have okw : Ok { act x with now := put s (setP (pgs x.now s) k (pad b)) x.now, waits := x.waits ++ [⟨s, k, pad b⟩] } := ok_write hp.ok (by omega) (by omega) fun e => by
    have : ¬ free x < 1 := fun h => g3 ⟨by omega, h⟩
    omega
  have hklt : k < 4611686018427387904 := by
    have h1 := hp.ok.tot
    have h2 := hp.ok.room
    have h3 := tot_put hp.ok.now s []
    simp at h3
    omega
  refine (act_spec (hd0.keep k11)).mono ?_
  rintro v h13 ⟨hd13, u13, rfl⟩
  have u1 : Upd O h1 h13 := (k11.upd O).trans u13
  have hs13 : Sl ByteE h13 A n (bytesL b) := by
    by_cases h0 : n = 0
    · exact ⟨hsl.1, .inl (List.eq_nil_of_length_eq_zero (hsl.1.trans h0))⟩
    · exact hsl.upd u1 (hA h0)
  obtain ⟨hO13, c1, p1, c2, p2, A0, n0, c0, hp, hb⟩ := hd13
  refine ⟨_, rfl, _, built_wt s k, zc Tryz.prog 105, ⟨rfl⟩, svc_store_wt ⟨rfl⟩ ?_⟩
  have kq := keep_push h13 (.cells (WtE.enc ⟨s, k, zp⟩).toArray 105 (0, 0))
  have hat := push_at h13 (.cells (WtE.enc ⟨s, k, zp⟩).toArray 105 (0, 0))
  refine ⟨⟨by omega, by omega, by omega, by omega⟩, ?_⟩
  have esub : subA (some ((⟨h13.size, 0, none⟩ : Addr).add 2)) 0 512 1 = some ⟨h13.size, 2, none⟩ := by simp [subA, Addr.add]
  rw [esub]
  have szB1 : szOf Tryz.prog 5 = some ByteE.sz := by kernel_rfl
  refine svc_copy_into (E := ByteE) (xs := bytesL b) undBs szB1 hat (by rw [List.size_toArray, WtE.len]; show 2 + min n 512 * 1 ≤ 514; omega) (hs13.keep kq) fun h20 s20 b20 o20 => ?_
  rw [← hn, List.toList_toArray, wt_copy (by omega)] at b20
  have k20 : Keep h13.size h13 h20 := kq.trans ⟨by omega, fun q hq => o20 q (by omega)⟩
  have hp20 := hp.upd (k20.upd fun _ => False) fun _ _ h => h
  obtain ⟨r1, r2⟩ := WtE_at b20
  have nm := hp20.ne_map
  have nd := hp20.nd
  simp at nd
  refine ⟨_, rfl, _, rfl, _, _, hp20.side1, _, _, r1, _, r2, (set_spec hp20.now hp20.ok.now (by omega) hklt).mono ?_⟩
  rintro v h29 ⟨s29, u29, rfl⟩
  have hl13 := at_lt b20
  have hq : ∀ q, two c1 p1 q → q < h13.size := fun q h => hp.lt (two_blks1 q h)
  have hbox29 := u29.at hp20.box (by rintro (e | e) <;> omega)
  have hB29 := u29.at b20 (fun h => by have := hq _ h; omega)
  refine ⟨rfl, fun h' => h'[d]? = some (.cells (diskC c1 p1 c2 p2 A0 n0 c0 (act x)).toArray 98 (0, 0)), hbox29, _, rfl, A0, n0, c0, fun h35 e35 => reads_load scWs (cell_cells e35 (by simp [diskC])), _,
    reads_load_agg agWrite (WtE.len ⟨s, k, pad b⟩) (cells_all hB29), ?_⟩
  have kp29 := keep_push h29 (.cells (WtE.enc ⟨s, k, pad b⟩).toArray 105 (0, 0))
  have hbox38 := kp29.at hbox29 (at_lt hbox29)
  refine svc_buildSlice (bs_wt ⟨s, k, pad b⟩) ⟨_, _, _, rfl, hbox38, ?_⟩
  have ow29 : Own WtE 105 0 h29 A0 n0 c0 x.waits := hp20.waits.upd u29 fun q hq => by have := hp20.ne_waits hq; rintro (e | e) <;> omega
  have ow38 := ow29.upd (kp29.upd fun _ => False) fun _ _ h => h
  have hn0 : x.waits.length = n0 := hp20.waits.1
  have hbl := ow29.block
  refine svc_append (ys := [⟨s, k, pad b⟩]) app_wt ow38 (Nat.zero_le _) ⟨rfl, .inr ⟨_, rfl, fun j y hy l u hu => ?_⟩⟩ (by omega) fun a' c'' h43 o43 u43 b43 => ⟨_, _, _, rfl, _, rfl, ?_⟩
  · cases j with
    | zero =>
      simp at hy; subst hy
      rw [Addr.add_row, cell_push, Nat.zero_mul]
      simpa using hu
    | succ j => simp at hy
  have nw := fun q hq => hp20.ne_waits (b := q) hq
  have hbox43 := u43.at hbox38 fun h => (nw _ h).1 rfl
  refine svc_store_box szWs hbox43 (by simp [diskC]) rfl (one_slice _ _ _) fun h49 s49 b49 u49 => ?_
  -- the whole
  have u2943 : Upd (blk A0) h29 h43 := (kp29.upd _).trans u43
  have uall : Upd O h1 h49 := u1.trans ((k20.upd O).trans ((u29.mono fun q h => hb q (two_blks1 q h)).trans ((u2943.mono fun q h => hb q (.inr (.inr (.inr (.inr (.inr h)))))).trans (u49.mono fun q e => e ▸ hb d (.inl rfl)))))
  have z20 := k20.size
  have z29 := u29.size
  have z43 := u43.size
  have z1 := u1.size
  simp only [Array.size_push] at z43
  have a43 : ∀ q, blk a' q → q ≠ d ∧ q ≠ c1 ∧ q ≠ p1 ∧ q ≠ c2 ∧ q ≠ p2 := fun q hq => by
    rcases b43 q hq with h | h
    · exact nw q h
    · simp only [Array.size_push] at h
      have := at_lt hbox29
      have l1 := hp20.now.lt
      have l2 := hp20.safe.lt
      omega
  have hp49 : DiskP h49 d c1 p1 c2 p2 a' (n0 + 1) c'' { act x with now := put s (setP (pgs x.now s) k (pad b)) x.now, waits := x.waits ++ [⟨s, k, pad b⟩] } := by
    refine ⟨?_, ?_, ?_, o43.upd u49 fun q hq => (a43 q hq).1, hp20.nd, okw⟩
    · rw [b49]; simp [diskC]
    · exact (s29.upd u2943 (fun h => (nw _ h).2.1 rfl) (fun h => (nw _ h).2.2.1 rfl)).upd u49 (Ne.symm nm.1) (Ne.symm nm.2.1)
    · exact ((hp20.safe.upd u29 (by rintro (e | e) <;> omega) (by rintro (e | e) <;> omega)).upd u2943 (fun h => (nw _ h).2.2.2.1 rfl) (fun h => (nw _ h).2.2.2.2 rfl)).upd u49 (Ne.symm nm.2.2.1) (Ne.symm nm.2.2.2)
  have hd49 : DiskAt h49 d { act x with now := put s (setP (pgs x.now s) k (pad b)) x.now, waits := x.waits ++ [⟨s, k, pad b⟩] } fun q => O q ∨ (h1.size ≤ q ∧ q < h49.size) := by
    refine ⟨fun q h => h.elim (fun h => Nat.lt_of_lt_of_le (hO q h) uall.size) (·.2), c1, p1, c2, p2, a', n0 + 1, c'', hp49, ?_⟩
    rintro q (rfl | rfl | rfl | rfl | rfl | hq)
    · exact .inl (hb _ (.inl rfl))
    · exact .inl (hb _ (.inr (.inl rfl)))
    · exact .inl (hb _ (.inr (.inr (.inl rfl))))
    · exact .inl (hb _ (.inr (.inr (.inr (.inl rfl)))))
    · exact .inl (hb _ (.inr (.inr (.inr (.inr (.inl rfl))))))
    · have hlt := (hp49.waits.block q hq).2
      rcases b43 q hq with h | h
      · exact .inl (hb q (.inr (.inr (.inr (.inr (.inr h))))))
      · simp only [Array.size_push] at h; exact .inr ⟨by omega, hlt⟩
  refine br_intro (fun hg => ?_) (fun hg => ?_)
  · refine ⟨_, rfl, _, reads_load scU (hp49.rd rfl), (off_spec hd49 hp.ok.keep (by simp; omega)).mono ?_⟩
    rintro v h53 ⟨O', hd53, hO', u53, rfl⟩
    rw [if_pos hg]
    refine ⟨rfl, O', hd53, fun q h => ?_, uall.trans' u53, rfl⟩
    rcases hO' q h with h | h
    · exact h.imp id (·.1)
    · exact .inr (by have := uall.size; omega)
  · rw [if_neg (by simp [hg])]
    exact ⟨_, hd49, fun q h => h.imp id (·.1), uall, rfl⟩
theorem write_spec {h : Heap} {d : Nat} {x : D} {O : Nat → Prop} {s b : Str} {i : Int} {A : Option Addr} {n c : Nat} (hd : DiskAt h d x O) (hsl : Sl ByteE h A n (bytesL b)) (hA : ∀ q, blk A q → ¬ O q) (hwn : x.waits.length < 1073741824) :
    HC Tryz.prog 17 #[.pointer (some ⟨d, 0, none⟩), .string s, .int .i64 i, .slice A n c] h
      fun v h' => ∃ O', DiskAt h' d (write x s i b).2 O' ∧ (∀ q, O' q → O q ∨ h.size ≤ q) ∧ Upd O h h' ∧ v = .int .i64 (write x s i b).1 := write_spec0 hd hsl (fun _ => hA) hwn
end Go.Proofs.YthkhaobmhheoaaaGreat
end

section
set_option linter.unusedVariables false
set_option linter.unusedSimpArgs false
set_option maxRecDepth 100000
namespace Go.Proofs.YthkhaobmhheoaaaGreat
open Go Go.Vc Go.Proofs Go.Dk

/-- a predicate on writes, as a function value: it only looks, where X holds. -/
def PredC (f : Nat) (cap : Array Value) (p : Wt → Bool) (X : Heap → Prop) : Prop :=
  fnOk Tryz.prog f = true ∧ ∀ h w, X h → HC Tryz.prog f (Array.mk [.agg (WtE.enc w).toArray] ++ cap) h fun v h' => Keep h.size h h' ∧ v = .bool (p w)

theorem idxF_spec {f : Nat} {cap : Array Value} {p : Wt → Bool} {X : Heap → Prop} (hp : PredC f cap p X) (hX : ∀ h h' : Heap, X h → Keep h.size h h' → X h') {h : Heap} {A : Option Addr} {n c : Nat} {ws : List Wt}
    (hs : Sl WtE h A n ws) (hx : X h) (hn : n ≤ 1099511627776) :
    HC Tryz.prog 126 #[.slice A n c, .func (.func f) #[] cap] h
      fun v h' => Keep h.size h h' ∧ v = .int .i64 (match ws.findIdx? p with | some k => (k : Int) | none => -1) := by
  have hl := hs.1
  refine HC_of_vc (args := [.slice A n c, .func (.func f) #[] cap]) (base := 19) (cuts := []) (bigs := []) hm Tryz.func126 ?_
  rw [vcIdxF]
  refine ⟨fun _ n3 h4 => ∃ k : Nat, n3 = k ∧ k ≤ n ∧ Keep h.size h h4 ∧ ∀ j w, j < k → ws[j]? = some w → p w = false, fun _ n3 _ => n - n3.toNat, ⟨0, rfl, by omega, Keep.refl _ _, fun j w hj => by omega⟩, ?_⟩
  rintro _ n3 h4 ⟨k, rfl, hk, k4, hall⟩
  refine br_intro (fun hlt => ?_) (fun hge => ⟨k4, ?_⟩)
  · have hlt : k < n := by simpa using hlt
    have hw : ws[k]? = some (ws[k]'(by omega)) := List.getElem?_eq_getElem (by omega)
    generalize ws[k]'(by omega) = w at hw
    obtain ⟨q, hA, hq⟩ := reads_wt (c := c) (hs.keep k4) hw
    refine ⟨q, ⟨hA, by omega, by omega⟩, _, hq, br_intro (fun _ => (hp.2 h4 w (hX _ _ hx k4)).mono ?_) (fun e => by rw [hp.1] at e; cases e)⟩
    rintro v h11 ⟨k11, rfl⟩
    have kk := k4.trans (k11.mono k4.size)
    refine ⟨_, rfl, br_intro (fun e => ⟨kk, ?_⟩) (fun e => ?_)⟩
    · have : ws.findIdx? p = some k := List.findIdx?_eq_some_iff_getElem.2 ⟨by omega, by rw [List.getElem?_eq_getElem (by omega)] at hw; cases hw; exact e, fun j hj => by
        have := hall j _ hj (List.getElem?_eq_getElem (by omega)); simp [this]⟩
      rw [this]
    · rw [wrap_i64 (by omega) (by omega)]
      refine ⟨⟨k + 1, rfl, hlt, kk, fun j w' hj hw' => ?_⟩, by dsimp only; omega⟩
      by_cases hjk : j = k
      · subst hjk; rw [hw] at hw'; cases hw'; exact e
      · exact hall j w' (by omega) hw'
  · have hk' : k = n := by have : ¬ (k : Int) < n := by simpa using hge
                           omega
    subst hk'
    have : ws.findIdx? p = none := List.findIdx?_eq_none_iff.2 fun w hw => by
      obtain ⟨j, hj, rfl⟩ := List.getElem_of_mem hw
      exact hall j _ (by omega) (List.getElem?_eq_getElem hj)
    rw [this]

theorem zc_enc : (zc Tryz.prog 105).toList = WtE.enc ⟨⟨#[]⟩, 0, zp⟩ := by kernel_rfl
theorem zc_one : oneCells (Value.agg (zc Tryz.prog 105)).cells.toList := by
  have h : (Value.agg (zc Tryz.prog 105)).cells.toList = WtE.enc ⟨⟨#[]⟩, 0, zp⟩ := zc_enc
  rw [h]; exact WtE_one _
theorem filter_take {p : Wt → Bool} {ws : List Wt} {j : Nat} {w : Wt} (hw : ws[j]? = some w) : (ws.take (j + 1)).filter (fun w => !p w) = (ws.take j).filter (fun w => !p w) ++ if p w then [] else [w] := by
  have hj := (List.getElem?_eq_some_iff.1 hw).1
  have he := (List.getElem?_eq_some_iff.1 hw).2
  rw [List.take_succ_eq_append_getElem hj, he, List.filter_append]
  congr 1
  cases h : p w <;> simp [h]

set_option maxHeartbeats 1000000 in
theorem delF_spec {f : Nat} {cap : Array Value} {p : Wt → Bool} {X : Heap → Prop} {A : Option Addr} (hp : PredC f cap p X) (hX : ∀ h h' : Heap, X h → Keep h.size h h' → X h') (hXu : ∀ h h' : Heap, X h → Upd (blk A) h h' → X h')
    {h : Heap} {n c : Nat} {ws : List Wt} (ho : Own WtE 105 0 h A n c ws) (hx : X h) (hn : n ≤ 1099511627776) :
    HC Tryz.prog 92 #[.slice A n c, .func (.func f) #[] cap] h
      fun v h' => Own WtE 105 0 h' A (ws.filter fun w => !p w).length c (ws.filter fun w => !p w) ∧ Upd (blk A) h h' ∧ v = .slice A (ws.filter fun w => !p w).length c := by
  have hl := ho.1
  have hnc := ho.2.1
  refine HC_of_vc (args := [.slice A n c, .func (.func f) #[] cap]) (base := 42) (cuts := []) (bigs := []) hm Tryz.func92 ?_
  rw [vcDelF]
  refine (idxF_spec hp hX ho.sl hx hn).mono ?_
  rintro v h1 ⟨k1, rfl⟩
  have ho1 := ho.upd (k1.upd fun _ => False) fun _ _ h => h
  cases hf : ws.findIdx? p with
  | none =>
    have hall := List.findIdx?_eq_none_iff.1 hf
    have hfil : (ws.filter fun w => !p w) = ws := List.filter_eq_self.2 fun w hw => by simp [hall w hw]
    refine ⟨_, rfl, br_intro (fun _ => ?_) (fun e => by simp at e)⟩
    rw [hfil, hl]
    exact ⟨ho1, k1.upd _, rfl⟩
  | some k =>
    obtain ⟨hkl, hpk, hbef⟩ := List.findIdx?_eq_some_iff_getElem.1 hf
    have hb1 : (((k : Nat) : Int) == -1) = false := by rw [beq_eq_false_iff_ne]; omega
    refine ⟨_, rfl, br_intro (fun e => by rw [hb1] at e; cases e) (fun _ => ?_)⟩
    obtain ⟨b, cells, rfl, _, hb, hcs, rest, hrest⟩ : ∃ b cells, A = some ⟨b, 0, none⟩ ∧ 0 ≤ b ∧ h1[b]? = some (.cells cells 105 (0, 0)) ∧ cells.size = c * WtE.sz ∧ ∃ rest, cells.toList = ws.flatMap WtE.enc ++ rest := by
      rcases ho1.2.2 with ⟨_, e⟩ | h0
      · omega
      · exact h0
    have eb : ∀ q, q = b → blk (some (⟨b, 0, none⟩ : Addr)) q := fun q e => ⟨_, rfl, e.symm⟩
    refine ⟨fun n5 n6 h7 => ∃ (i j : Nat) (R : List Wt) (cells : Array Value) (rest : List Value), n5 = i ∧ n6 = j ∧ j ≤ n ∧ i < j ∧ R.length = n ∧ R.take i = (ws.take j).filter (fun w => !p w) ∧ R.drop j = ws.drop j ∧
        h7[b]? = some (.cells cells 105 (0, 0)) ∧ cells.size = c * WtE.sz ∧ cells.toList = R.flatMap WtE.enc ++ rest ∧ Upd (blk (some ⟨b, 0, none⟩)) h h7 ∧ X h7,
      fun _ n6 _ => n - n6.toNat, ⟨k, k + 1, ws, cells, rest, rfl, by show IntKind.i64.wrap ((k : Int) + 1) = _; rw [wrap_i64 (by omega) (by omega)]; rfl, by omega, by omega, hl, ?_, rfl, hb, hcs, hrest, k1.upd _, hX _ _ hx k1⟩, ?_⟩
    · rw [filter_take (List.getElem?_eq_getElem hkl), hpk]
      simp only [if_true, List.append_nil]
      refine (List.filter_eq_self.2 fun w hw => ?_).symm
      obtain ⟨j, hj, rfl⟩ := List.getElem_of_mem hw
      simp only [List.length_take] at hj
      have := hbef j (by omega)
      simpa using this
    rintro _ _ h7 ⟨i, j, R, cells, rest, rfl, rfl, hjn, hij, hRl, hRt, hRd, hb, hcs, hrest, u7, x7⟩
    refine br_intro (fun hlt => ?_) (fun hge => ?_)
    · have hlt : j < n := by simpa using hlt
      have hw : ws[j]? = some (ws[j]'(by omega)) := List.getElem?_eq_getElem (by omega)
      generalize ws[j]'(by omega) = w at hw
      have hRw : R[j]? = some w := by
        have := congrArg (fun l => l[0]?) hRd
        simpa [hw] using this
      have hsl : Sl WtE h7 (some ⟨b, 0, none⟩) n R := ⟨hRl, .inr ⟨_, rfl, fun i x hxx j v hv => by
        rw [Addr.add_row, Nat.zero_add, cell_at hb, ← Array.getElem?_toList, hrest]
        have := flat_get (E := WtE) R hxx hv
        rw [List.getElem?_append_left (List.getElem?_eq_some_iff.1 this).1]; exact this⟩⟩
      obtain ⟨q, hA, hq⟩ := reads_wt (c := c) hsl hRw
      cases hA
      refine ⟨⟨b, 0, none⟩, ⟨rfl, by omega, by omega⟩, _, hq, zc Tryz.prog 105, ⟨rfl⟩, svc_store_wt ⟨rfl⟩ ?_⟩
      have hat := push_at h7 (.cells (WtE.enc w).toArray 105 (0, 0))
      have kp := keep_push h7 (.cells (WtE.enc w).toArray 105 (0, 0))
      refine ⟨_, reads_load_agg agWrite (WtE.len w) (cells_all hat), br_intro (fun _ => (hp.2 _ w (hX _ _ x7 kp)).mono ?_) (fun e => by rw [hp.1] at e; cases e)⟩
      rintro v h15 ⟨k15, rfl⟩
      have k715 : Keep h7.size h7 h15 := kp.trans (k15.mono kp.size)
      have hb15 := k715.at hb (at_lt hb)
      have x15 : X h15 := hX _ _ x7 k715
      have u15 := u7.keep' k715
      have hat15 := k15.at hat (by simp)
      have hwj : IntKind.i64.wrap ((j : Int) + 1) = ((j + 1 : Nat) : Int) := by rw [wrap_i64 (by omega) (by omega)]; rfl
      have hwi : IntKind.i64.wrap ((i : Int) + 1) = ((i + 1 : Nat) : Int) := by rw [wrap_i64 (by omega) (by omega)]; rfl
      have hdrop : R.drop (j + 1) = ws.drop (j + 1) := by
        have := congrArg (List.drop 1) hRd
        simpa [List.drop_drop] using this
      refine ⟨_, rfl, br_intro (fun e => ?_) (fun e => ?_)⟩
      · have e : p w = false := by simpa using e
        refine ⟨_, reads_load_agg agWrite (WtE.len w) (cells_all hat15), ⟨b, 0, none⟩, ⟨rfl, by omega, by omega⟩, ?_⟩
        rw [Addr.add_row, Nat.zero_add, Int.toNat_natCast]
        refine svc_store_at (v := .agg (WtE.enc w).toArray) ?_ hb15 ?_ (WtE_one w) fun h20 s20 b20 u20 => ?_
        · show szOf _ _ = some (WtE.enc w).toArray.size; rw [List.size_toArray, WtE.len]; exact szWrite
        · show i * 514 + (WtE.enc w).toArray.size ≤ _
          rw [List.size_toArray, WtE.len, hcs]
          show i * 514 + 514 ≤ c * 514
          omega
        · have hset : putL cells.toList (i * 514) (WtE.enc w) = (R.set i w).flatMap WtE.enc ++ rest := by
            rw [hrest]; exact putL_flat (E := WtE) R rest i w (by omega)
          have b20' : h20[b]? = some (.cells ((R.set i w).flatMap WtE.enc ++ rest).toArray 105 (0, 0)) := by rw [← hset]; exact b20
          rw [hwi, hwj]
          refine ⟨⟨i + 1, j + 1, R.set i w, _, rest, rfl, rfl, hlt, by omega, by simpa using hRl, ?_, ?_, b20', ?_, by simp, u15.trans (u20.mono eb), hXu _ _ x15 (u20.mono eb)⟩, by dsimp only; omega⟩
          · rw [filter_take hw, e, ← hRt]
            simp only [Bool.false_eq_true, if_false]
            rw [List.take_succ_eq_append_getElem (by simp; omega), List.getElem_set_self, List.take_set_of_le (Nat.le_refl _)]
          · rw [List.drop_set_of_lt (by omega), hdrop]
          · have := congrArg List.length hset
            rw [putL_len, Array.length_toList] at this
            simp only [List.size_toArray]; omega
      · have e : p w = true := by simpa using e
        rw [hwj]
        refine ⟨⟨i, j + 1, R, cells, rest, rfl, rfl, hlt, by omega, hRl, ?_, hdrop, hb15, hcs, hrest, u15, x15⟩, by dsimp only; omega⟩
        rw [filter_take hw, e, ← hRt]; simp
    · have hjn' : j = n := by have : ¬ (j : Int) < n := by simpa using hge
                              omega
      subst hjn'
      have ht : ws.take j = ws := List.take_of_length_le (by omega)
      rw [ht] at hRt
      have hm : (ws.filter fun w => !p w).length = i := by rw [← hRt, List.length_take]; omega
      have esub : subA (some (⟨b, 0, none⟩ : Addr)) (i : Int).toNat c 514 = some ⟨b, i * 514, none⟩ := by
        rw [Int.toNat_natCast, subA, if_neg (by omega)]; simp [Addr.add_row]
      refine ⟨⟨by omega, by omega, by omega, by omega⟩, ?_⟩
      rw [esub]
      refine svc_clear_tail app_wt.und app_wt.zero app_wt.zlen zc_one hb (by rw [hcs]; show i * 514 + (j - (i : Int).toNat) * 514 ≤ c * 514; rw [Int.toNat_natCast]; omega) fun h22 cells' s22 b22 z22 t22 u22 => ?_
      refine ⟨rfl, ⟨by omega, by omega, by omega⟩, ?_⟩
      rw [Int.toNat_natCast, hm]
      refine ⟨⟨hm, by omega, .inr ⟨b, cells', rfl, Nat.zero_le _, b22, by rw [z22, hcs], cells'.toList.drop (i * 514), ?_⟩⟩, u7.trans (u22.mono eb), rfl⟩
      have h1 : cells'.toList = cells'.toList.take (i * 514) ++ cells'.toList.drop (i * 514) := (List.take_append_drop _ _).symm
      have h2 : (R.flatMap WtE.enc ++ rest).take (i * 514) = (R.take i).flatMap WtE.enc := by
        have hl1 : ((R.take i).flatMap WtE.enc).length = i * 514 := by rw [flat_len, List.length_take]; show min i R.length * 514 = _; congr 1; omega
        have : R.flatMap WtE.enc = (R.take i).flatMap WtE.enc ++ (R.drop i).flatMap WtE.enc := by rw [← List.flatMap_append, List.take_append_drop]
        rw [this, List.append_assoc, ← hl1, List.take_left]
      rw [t22, hrest, h2, hRt] at h1
      exact h1
end Go.Proofs.YthkhaobmhheoaaaGreat
end

section
set_option linter.unusedVariables false
set_option linter.unusedSimpArgs false
set_option maxRecDepth 100000
namespace Go.Proofs.YthkhaobmhheoaaaGreat
open Go Go.Vc Go.Proofs Go.Dk

theorem Like.cut {F : Fs} {mc : List (Str × Int)} {mp mp' : List ((Str × Int) × Str)} (hl : Like F mc mp) (hF : SrtF F) (s : Str) (k : Nat) (i : Int) (hi : ((pgs F s).length : Int) ≤ i)
    (hm : ∀ q j, mGet mp' (q, j) = if q = s ∧ (k : Int) ≤ j ∧ j < i then none else mGet mp (q, j)) (v : Int) (hv : v = min ((pgs F s).length : Int) k) :
    Like (put s ((pgs F s).take k) F) (mPut mc s v) mp' := by
  refine ⟨fun q => ?_, fun q j => ?_, fun q j hj => ?_⟩
  · rw [mGet_put, get_put hF]
    by_cases e : s = q
    · subst e; simp [hv]; omega
    · rw [if_neg e, if_neg (Ne.symm e)]; exact hl.count q
  · rw [hm]
    have h0 := hl.page q j
    unfold pg at h0 ⊢
    rw [Dk.pgs_put hF]
    by_cases e : q = s
    · subst e
      rw [if_pos rfl]
      by_cases h1 : 0 ≤ j
      · rw [if_pos h1] at h0 ⊢
        by_cases h2 : (k : Int) ≤ j
        · have h3 : ((pgs F q).take k).getD j.toNat zp = zp := by
            rw [List.getD_eq_getElem?_getD, List.getElem?_eq_none (by simp; omega)]; rfl
          rw [h3]
          by_cases h4 : j < i
          · rw [if_pos ⟨rfl, h2, h4⟩]; rfl
          · rw [if_neg (by omega), h0, List.getD_eq_getElem?_getD, List.getElem?_eq_none (by omega)]; rfl
        · rw [if_neg (by omega), h0]
          simp only [List.getD_eq_getElem?_getD, List.getElem?_take]
          rw [if_pos (by omega)]
      · rw [if_neg (by omega), if_neg h1]; rw [if_neg h1] at h0; exact h0
    · rw [if_neg (fun h => e h.1), if_neg e]; exact h0
  · rw [hm] at hj
    rw [Dk.pgs_put hF]
    by_cases e : q = s
    · subst e
      rw [if_pos rfl]
      by_cases h2 : (k : Int) ≤ j ∧ j < i
      · rw [if_pos ⟨rfl, h2⟩] at hj; cases hj
      · rw [if_neg (fun h => h2 h.2)] at hj
        have := hl.there q j hj
        simp; omega
    · rw [if_neg (fun h => e h.1)] at hj
      rw [if_neg e]; exact hl.there q j hj

theorem cutS_spec {h : Heap} {c p : Nat} {F : Fs} {s : Str} {k : Nat} (hs : SideAt h c p F) (hF : SrtF F) (hne : c ≠ p) (hk : k < 9223372036854775808) (hlen : (pgs F s).length < 4611686018427387904) :
    HC Tryz.prog 90 #[.agg #[.map (some c), .map (some p)], .string s, .int .i64 k] h
      fun v h' => SideAt h' c p (put s ((pgs F s).take k) F) ∧ Upd (two c p) h h' ∧ v = .tuple #[] := by
  obtain ⟨mc, mp, hc, hp, hl⟩ := hs
  refine HC_of_vc (args := [.agg #[.map (some c), .map (some p)], .string s, .int .i64 k]) (base := 30) (cuts := []) (bigs := []) hm Tryz.func90 ?_
  rw [vcCutS]
  have kH := keep_push h (Obj.cells (Array.mk [Value.map (some c), Value.map (some p)]) 94 (0, 0))
  have b0 := push_at h (Obj.cells (Array.mk [Value.map (some c), Value.map (some p)]) 94 (0, 0))
  have lc := hc.lt
  have lp := hp.lt
  have hnp : (mKeys mp).Nodup := by obtain ⟨_, _, _, _, h0, _⟩ := hp; exact h0
  refine ⟨fun n2 h3 => ∃ (i : Nat) (mp' : List ((Str × Int) × Str)), n2 = i ∧ k ≤ i ∧ (i ≤ (pgs F s).length ∨ i = k) ∧ h3[h.size]? = some (Obj.cells (Array.mk [Value.map (some c), Value.map (some p)]) 94 (0, 0)) ∧ MapAt Mc h3 c mc ∧ MapAt Mp h3 p mp' ∧ (mKeys mp').Nodup ∧
      (∀ q j, mGet mp' (q, j) = if q = s ∧ (k : Int) ≤ j ∧ j < i then none else mGet mp (q, j)) ∧ Upd (two c p) h h3,
    fun n2 _ => (pgs F s).length - n2.toNat, ⟨k, mp, rfl, Nat.le_refl _, .inr rfl, b0, hc.keep kH, hp.keep kH, hnp, fun q j => by rw [if_neg (by omega)], kH.upd _⟩, ?_⟩
  rintro n2 h3 ⟨i, mp', rfl, hki, hil, b3, c3, p3, nd3, m3, u3⟩
  refine ⟨_, reads_load scMc (cell_cells0 b3 rfl), _, reads_count c3 hl s, br_intro (fun hlt => ?_) (fun hge => ?_)⟩
  · have hlt : i < (pgs F s).length := by simpa using hlt
    refine ⟨some p, reads_load scMp (cell_cells b3 rfl), svc_delete (M := Mp) (k := (s, (i : Int))) p3 fun h8 s8 u8 m8 => ⟨rfl, ?_⟩⟩
    rw [wrap_i64 (by omega) (by omega)]
    refine ⟨⟨i + 1, _, rfl, by omega, .inl hlt, u8.at b3 (by omega), c3.upd u8 hne, m8, mNodup_del nd3 _, fun q j => ?_, u3.trans (u8.mono fun b e => .inr e)⟩, by dsimp only; omega⟩
    rw [mGet_del nd3, m3]
    by_cases e : (s, (i : Int)) = (q, j)
    · cases e; rw [if_pos rfl, if_pos ⟨rfl, by omega, by omega⟩]
    · rw [if_neg e]
      by_cases e2 : q = s ∧ (k : Int) ≤ j ∧ j < i
      · rw [if_pos e2, if_pos ⟨e2.1, e2.2.1, by omega⟩]
      · rw [if_neg e2, if_neg fun h => e2 ⟨h.1, h.2.1, by
          have : j ≠ i := fun h0 => e (by rw [h0, h.1])
          omega⟩]
  · have hge : ((pgs F s).length : Int) ≤ i := by simpa using hge
    refine ⟨some c, reads_load scMc (cell_cells0 b3 rfl), some c, reads_load scMc (cell_cells0 b3 rfl), _, reads_count c3 hl s, _, reads_min, svc_mapUpdate (M := Mc) (k := s) c3 fun h14 s14 u14 m14 => ?_⟩
    refine ⟨⟨_, _, m14, p3.upd u14 (Ne.symm hne), hl.cut hF s k i hge m3 _ ?_⟩, u3.trans (u14.mono fun b e => .inl e), by first | rfl | trivial⟩
    split <;> omega

theorem Like.put0 {F : Fs} {mc : List (Str × Int)} {mp : List ((Str × Int) × Str)} (hl : Like F mc mp) (hF : SrtF F) (n : Str) (hn : pgs F n = []) : Like (put n [] F) (mPut mc n 0) mp := by
  have hp : ∀ m, pgs (put n [] F) m = pgs F m := fun m => by
    rw [Dk.pgs_put hF]; split
    · rename_i e; subst e; exact hn.symm
    · rfl
  refine ⟨fun m => ?_, fun m i => ?_, fun m i hi => ?_⟩
  · rw [mGet_put, get_put hF]
    by_cases e : n = m
    · subst e; simp
    · rw [if_neg e, if_neg (Ne.symm e)]; exact hl.count m
  · have := hl.page m i; unfold pg at this ⊢; rw [hp]; exact this
  · rw [hp]; exact hl.there m i hi
theorem put_put {F : Fs} (hF : SrtF F) (n : Str) (a b : List Str) : put n a (put n b F) = put n a F :=
  fs_ext (srt_put (srt_put hF _ _) _ _) (srt_put hF _ _) fun q => by rw [get_put (srt_put hF _ _), get_put hF, get_put hF]; split <;> rfl
theorem setP_take {l : List Str} {k : Nat} (hk : k < l.length) : setP (l.take k) k (l[k]) = l.take (k + 1) := by
  unfold setP
  have h1 : (l.take k).length = k := by simp; omega
  rw [h1, show k + 1 - k = 1 by omega, List.take_succ_eq_append_getElem hk]
  show (l.take k ++ [zp]).set k l[k] = _
  rw [List.set_append_right _ _ (by omega), h1, Nat.sub_self]; rfl

/-- a box that holds a text. -/
def boxS (q : Nat) (s : Str) (h : Heap) : Prop := h[q]? = some (.cells (Array.mk [Value.string s]) 9 (0, 0))
theorem pred_settle (q : Nat) (s : Str) : PredC 137 (Array.mk [.pointer (some ⟨q, 0, none⟩)]) (fun w => decide (w.n = s)) (boxS q s) := by
  refine ⟨by kernel_rfl, fun h w hx => ?_⟩
  have e : (Array.mk [Value.agg (WtE.enc w).toArray] ++ Array.mk [Value.pointer (some ⟨q, 0, none⟩)]) = [Value.agg (WtE.enc w).toArray, Value.pointer (some ⟨q, 0, none⟩)].toArray := by simp
  rw [e]
  refine HC_of_vc (args := [.agg (WtE.enc w).toArray, .pointer (some ⟨q, 0, none⟩)]) (base := 9) (cuts := []) (bigs := []) hm Tryz.func137 ?_
  rw [vcSettle1]
  have kp := keep_push h (.cells (WtE.enc w).toArray 105 (0, 0))
  refine ⟨w.n, reads_load scS (cell_cells0 (push_at h (.cells (WtE.enc w).toArray 105 (0, 0))) (by simp [WtE])), s, reads_load scS (cell_cells0 (kp.at hx (at_lt hx)) rfl), kp, ?_⟩
  rw [beq_dec']

theorem drop0 (ws : List Wt) (s : Str) : drop ws s 0 = ws.filter fun w => !decide (w.n = s) := by
  unfold drop
  congr 1; funext w
  have : decide ((0 : Int) ≤ (w.i : Int)) = true := by simp
  rw [this, Bool.and_true]
theorem ok_settle {x : D} (h : Ok x) (s : Str) : Ok { x with safe := put s (pgs x.now s) x.safe, waits := drop x.waits s 0 } := by
  refine ⟨h.now, srt_put h.safe _ _, h.room, h.tot, fun n => ?_, fun w hw => h.waits w (List.mem_filter.1 hw).1, h.pnow, fun n p hp => ?_, h.fuse, h.keep⟩
  · show (pgs (put s (pgs x.now s) x.safe) n).length ≤ _
    rw [Dk.pgs_put h.safe]; split
    · rename_i e; subst e; exact Nat.le_refl _
    · exact h.fewer n
  · have hp : p ∈ pgs (put s (pgs x.now s) x.safe) n := hp
    rw [Dk.pgs_put h.safe] at hp; split at hp
    · exact h.pnow _ _ hp
    · exact h.psafe _ _ hp
theorem len_now {x : D} (h : Ok x) (s : Str) : (pgs x.now s).length ≤ 4096 := by
  have h3 := tot_put h.now s []
  have h1 := h.tot
  have h2 := h.room
  simp at h3
  omega

end Go.Proofs.YthkhaobmhheoaaaGreat
end

section
set_option linter.unusedVariables false
set_option linter.unusedSimpArgs false
set_option maxRecDepth 100000
namespace Go.Proofs.YthkhaobmhheoaaaGreat
open Go Go.Vc Go.Proofs Go.Dk

theorem settle_spec {h : Heap} {d : Nat} {x : D} {O : Nat → Prop} {s : Str} (hd : DiskAt h d x O) (hwn : x.waits.length ≤ 1073741824) :
    HC Tryz.prog 111 #[.pointer (some ⟨d, 0, none⟩), .string s] h
      fun v h' => DiskAt h' d { x with safe := put s (pgs x.now s) x.safe, waits := drop x.waits s 0 } O ∧ Upd O h h' ∧ v = .tuple #[] := by
  obtain ⟨hO, c1, p1, c2, p2, A, n, c, hp, hb⟩ := hd
  have hl4 := len_now hp.ok s
  refine HC_of_vc (args := [.pointer (some ⟨d, 0, none⟩), .string s]) (base := 54) (cuts := []) (bigs := []) hm Tryz.func111 ?_
  rw [vcSettle]
  have k0 := keep_push h (Obj.cells (Array.mk [Value.string s]) 9 (0, 0))
  have x0 : boxS h.size s (h.push (Obj.cells (Array.mk [Value.string s]) 9 (0, 0))) := push_at _ _
  have z0 : (h.push (Obj.cells (Array.mk [Value.string s]) 9 (0, 0))).size = h.size + 1 := by simp
  generalize (h.push (Obj.cells (Array.mk [Value.string s]) 9 (0, 0))) = H at k0 x0 z0
  have hpH := hp.upd (k0.upd fun _ => False) fun _ _ h => h
  have hblk : ∀ q, blks d c1 p1 c2 p2 A q → q < h.size := fun q hq => hp.lt hq
  have nd := hp.nd
  simp at nd
  have u0 : Upd (blks d c1 p1 c2 p2 A) h H := k0.upd _
  refine ⟨_, rfl, _, _, hpH.side2, _, reads_load scS (cell_cells0 x0 rfl), (cutS_spec (k := 0) hpH.safe hpH.ok.safe (by omega) (by omega) (by have := hp.ok.fewer s; omega)).mono ?_⟩
  rintro v h5 ⟨s5, u5, rfl⟩
  rw [List.take_zero] at s5
  have off2 : ∀ {q}, two c2 p2 q → q < h.size := fun h => hblk _ (two_blks2 _ h)
  have x5 : boxS h.size s h5 := u5.at x0 fun h => by have := off2 h; omega
  have ok5 : Ok { x with safe := put s [] x.safe } := ok_safe hp.ok (srt_put hp.ok.safe _ _) (fun q => by
      rw [Dk.pgs_put hp.ok.safe]; split
      · simp
      · exact hp.ok.fewer q) fun q p hq => by
      rw [Dk.pgs_put hp.ok.safe] at hq; split at hq
      · cases hq
      · exact hp.ok.psafe _ _ hq
  have hp5 := hpH.safe_turn u5 s5 ok5
  obtain ⟨mc5, mp5, hc5, hm5, hl5⟩ := hp5.safe
  refine ⟨rfl, _, rfl, some c2, reads_load scMc (hp5.rd rfl), _, reads_load scS (cell_cells0 x5 rfl), svc_mapUpdate (M := Mc) (k := s) (v := 0) hc5 fun h10 s10 u10 m10 => ?_⟩
  have u10' : Upd (two c2 p2) h5 h10 := u10.mono fun b e => .inl e
  have x10 : boxS h.size s h10 := u10'.at x5 fun h => by have := off2 h; omega
  have s10 : SideAt h10 c2 p2 (put s [] x.safe) := by
    have h0 := hl5.put0 ok5.safe s (by show pgs (put s [] x.safe) s = []; rw [Dk.pgs_put hp.ok.safe, if_pos rfl])
    have e : put s [] (put s [] x.safe) = put s [] x.safe := put_put hp.ok.safe _ _ _
    have h0 : Like (put s [] (put s [] x.safe)) (mPut mc5 s 0) mp5 := h0
    rw [e] at h0
    exact ⟨_, _, m10, hm5.upd u10 (by omega), h0⟩
  have hp10 := hp5.safe_turn u10' s10 ok5
  obtain ⟨mc1, mp1, hc1, hm1, hl1⟩ := hp10.now
  refine ⟨_, rfl, some c1, reads_load scMc (cell_cells0 hp10.box rfl), _, reads_load scS (cell_cells0 x10 rfl), _, reads_count hc1 hl1 s, ?_⟩
  have okk : ∀ k, Ok { x with safe := put s ((pgs x.now s).take k) x.safe } := fun k => ok_safe hp.ok (srt_put hp.ok.safe _ _) (fun q => by
      rw [Dk.pgs_put hp.ok.safe]; split
      · rename_i e; subst e; simp; omega
      · exact hp.ok.fewer q) fun q p hq => by
      rw [Dk.pgs_put hp.ok.safe] at hq; split at hq
      · rename_i e; subst e; exact hp.ok.pnow _ _ (List.mem_of_mem_take hq)
      · exact hp.ok.psafe _ _ hq
  have ux : Upd (blks d c1 p1 c2 p2 A) h h10 := u0.trans ((u5.mono two_blks2).trans (u10'.mono two_blks2))
  refine ⟨fun n17 h18 => ∃ k : Nat, n17 = k ∧ k ≤ (pgs x.now s).length ∧ DiskP h18 d c1 p1 c2 p2 A n c { x with safe := put s ((pgs x.now s).take k) x.safe } ∧ boxS h.size s h18 ∧ Upd (blks d c1 p1 c2 p2 A) h h18,
    fun n17 _ => (pgs x.now s).length - n17.toNat, ⟨0, rfl, by omega, by rw [List.take_zero]; exact hp10, x10, ux⟩, ?_⟩
  rintro n17 h18 ⟨k, rfl, hk, hp18, x18, u18⟩
  refine br_intro (fun hlt => ?_) (fun hge => ?_)
  · have hlt : k < (pgs x.now s).length := by have : (k : Int) < (pgs x.now s).length := by simpa using hlt
                                              omega
    obtain ⟨mc2, mp2, hc2, hm2, hl2⟩ := hp18.now
    have hpg : pg x.now s (k : Int) = (pgs x.now s)[k] := by
      unfold pg; rw [if_pos (by omega), Int.toNat_natCast, List.getD_eq_getElem?_getD, List.getElem?_eq_getElem hlt]; rfl
    have hrp := reads_page hm2 hl2 s (k : Int)
    refine ⟨_, rfl, _, _, hp18.side2, _, reads_load scS (cell_cells0 x18 rfl), _, rfl, some p1, reads_load scMp (hp18.rd rfl), _, reads_load scS (cell_cells0 x18 rfl), _, hrp, (set_spec hp18.safe hp18.ok.safe (by omega) (by omega)).mono ?_⟩
    rintro v h28 ⟨s28, u28, rfl⟩
    have x28 : boxS h.size s h28 := u28.at x18 fun h => by have := off2 h; omega
    have e1 : pgs (put s ((pgs x.now s).take k) x.safe) s = (pgs x.now s).take k := by rw [Dk.pgs_put hp.ok.safe, if_pos rfl]
    have e2 : put s (setP (pgs (put s ((pgs x.now s).take k) x.safe) s) k (pg x.now s (k : Int))) (put s ((pgs x.now s).take k) x.safe) = put s ((pgs x.now s).take (k + 1)) x.safe := by
      rw [e1, hpg, setP_take hlt, put_put hp.ok.safe]
    have s28 : SideAt h28 c2 p2 (put s ((pgs x.now s).take (k + 1)) x.safe) := by rw [← e2]; exact s28
    rw [wrap_i64 (by omega) (by omega)]
    exact ⟨rfl, ⟨k + 1, rfl, hlt, hp18.safe_turn u28 s28 (okk (k + 1)), x28, u18.trans (u28.mono two_blks2)⟩, by dsimp only; omega⟩
  · have hk' : k = (pgs x.now s).length := by have : ¬ (k : Int) < (pgs x.now s).length := by simpa using hge
                                              omega
    rw [hk', List.take_length] at hp18
    have hw18 := hp18.waits
    refine ⟨_, rfl, A, n, c, reads_load scWs (hp18.rd rfl), (delF_spec (X := boxS h.size s) (pred_settle h.size s) (fun a b ha k => k.at ha (at_lt ha)) (fun a b ha u => u.at ha fun hq => by have := hblk h.size (.inr (.inr (.inr (.inr (.inr hq))))); omega) hw18 x18 (by have := hw18.1; have : x.waits.length = n := this; omega)).mono ?_⟩
    rintro v h34 ⟨o34, u34, rfl⟩
    have nw := fun q hq => hp18.ne_waits (b := q) hq
    have nm := hp18.ne_map
    have b34 := u34.at hp18.box fun h => (nw _ h).1 rfl
    refine ⟨_, _, _, rfl, _, rfl, svc_store_box szWs b34 (by simp [diskC]) rfl (one_slice _ _ _) fun h40 s40 b40 u40 => ?_⟩
    have hOd := hb d (.inl rfl)
    have uall : Upd (blks d c1 p1 c2 p2 A) h h40 := u18.trans ((u34.mono fun q h => .inr (.inr (.inr (.inr (.inr h))))).trans (u40.mono fun q e => .inl e))
    refine ⟨⟨fun q h0 => Nat.lt_of_lt_of_le (hO q h0) uall.size, c1, p1, c2, p2, A, (x.waits.filter fun w => !decide (w.n = s)).length, c, ⟨?_, ?_, ?_, ?_, hp.nd, ok_settle hp.ok s⟩, hb⟩, uall.mono hb, by first | rfl | trivial⟩
    · rw [b40]; simp [diskC]
    · exact (hp18.now.upd u34 (fun h => (nw _ h).2.1 rfl) (fun h => (nw _ h).2.2.1 rfl)).upd u40 (Ne.symm nm.1) (Ne.symm nm.2.1)
    · exact (hp18.safe.upd u34 (fun h => (nw _ h).2.2.2.1 rfl) (fun h => (nw _ h).2.2.2.2 rfl)).upd u40 (Ne.symm nm.2.2.1) (Ne.symm nm.2.2.2)
    · show Own _ _ _ _ _ _ _ (drop x.waits s 0)
      rw [drop0]
      exact o34.upd u40 fun q hq => (nw _ hq).1

end Go.Proofs.YthkhaobmhheoaaaGreat
end

section
set_option linter.unusedVariables false
set_option linter.unusedSimpArgs false
set_option maxRecDepth 100000
namespace Go.Proofs.YthkhaobmhheoaaaGreat
open Go Go.Vc Go.Proofs Go.Dk

/-- what is done to a file that is there: the call, given what the function value does. -/
theorem does_spec {f : Nat} {cap : Array Value} (hf : fnOk Tryz.prog f = true) {h : Heap} {d : Nat} {x : D} {O : Nat → Prop} {s : Str} {Q : Value → Heap → Prop} (hd : DiskAt h d x O) (hwn : x.waits.length ≤ 1073741824)
    (bad : ∀ h' O' e, (may x s).1 = e → e ≠ 0 → DiskAt h' d (may x s).2 O' → (∀ q, O' q → O q ∨ h.size ≤ q) → Upd O h h' → Q (.int .i64 e) h')
    (good : ∀ h1 c1 p1 c2 p2 A n c, may x s = (0, act x) → DiskP h1 d c1 p1 c2 p2 A n c (act x) → (∀ b, blks d c1 p1 c2 p2 A b → O b) → Upd O h h1 →
      HC Tryz.prog f (Array.mk [.agg (Array.mk [.map (some c1), .map (some p1)])] ++ cap) h1 fun v h' => v = .tuple #[] ∧ Q (.int .i64 0) h') :
    HC Tryz.prog 91 #[.pointer (some ⟨d, 0, none⟩), .string s, .func (.func f) #[] cap] h Q := by
  have hd0 := hd
  refine HC_of_vc (args := [.pointer (some ⟨d, 0, none⟩), .string s, .func (.func f) #[] cap]) (base := 31) (cuts := []) (bigs := []) hm Tryz.func91 ?_
  rw [vcDoes]
  refine (ready_spec hd).mono ?_
  rintro v h1 ⟨rfl, rfl⟩
  refine ⟨_, rfl, br_intro (fun e => ?_) (fun e => ?_)⟩
  · have hdn : x.down = true := by cases hdn : x.down <;> simp [hdn] at e ⊢
    have hm1 : may x s = (8, x) := by simp [may, hdn]
    rw [hdn]
    refine bad h1 O 8 (by rw [hm1]) (by decide) (by rw [hm1]; exact hd0) (fun q h => .inl h) (Upd.refl _ _)
  have hdn : x.down = false := by cases hdn : x.down <;> simp [hdn] at e ⊢
  refine (has_spec hd0 s).mono ?_
  rintro v h4 ⟨rfl, rfl⟩
  have hh : has x s = (mGet x.now s).isSome := by simp [has, hdn]
  rw [hh]
  refine ⟨_, rfl, br_intro (fun e => ?_) (fun e => ?_)⟩
  · have hn : mGet x.now s = none := by cases hg : mGet x.now s <;> simp [hg] at e ⊢
    have hm1 : may x s = (5, x) := by simp [may, hdn, hn]
    exact bad h4 O 5 (by rw [hm1]) (by decide) (by rw [hm1]; exact hd0) (fun q h => .inl h) (Upd.refl _ _)
  obtain ⟨l, hn⟩ : ∃ l, mGet x.now s = some l := by cases hg : mGet x.now s <;> simp [hg] at e ⊢
  have hm0 : may x s = ended x := by simp [may, hdn, hn]
  refine (act_spec hd0).mono ?_
  rintro v h7 ⟨hd7, u7, rfl⟩
  have hd7' := hd7
  obtain ⟨hO7, c1, p1, c2, p2, A, n, c, hp7, hb7⟩ := hd7
  refine ⟨_, rfl, br_intro (fun hg => ?_) (fun hg => ?_)⟩
  · have hm1 : may x s = (8, off (act x).keep (act x)) := by rw [hm0, ended, if_pos hg]
    refine ⟨_, rfl, _, reads_load scU (hp7.rd rfl), (off_spec hd7' hp7.ok.keep hwn).mono ?_⟩
    rintro v h12 ⟨O', hd12, sub, u12, rfl⟩
    exact ⟨rfl, bad h12 O' 8 (by rw [hm1]) (by decide) (by rw [hm1]; exact hd12) (fun q h => (sub q h).imp id fun h => Nat.le_trans u7.size h) (u7.trans u12)⟩
  · have hm1 : may x s = (0, act x) := by rw [hm0, ended, if_neg (by simp [hg])]
    exact ⟨_, rfl, _, _, hp7.side1, br_intro (fun _ => (good h7 c1 p1 c2 p2 A n c hm1 hp7 hb7 u7).mono fun v h' h => h) (fun e => by rw [hf] at e; cases e)⟩

theorem sync1_spec (h : Heap) (c p : Nat) : HC Tryz.prog 110 (Array.mk [.agg (Array.mk [.map (some c), .map (some p)])] ++ Array.mk []) h fun v h' => Keep h.size h h' ∧ v = .tuple #[] := by
  have e : (Array.mk [Value.agg (Array.mk [.map (some c), .map (some p)])] ++ Array.mk []) = [Value.agg (Array.mk [.map (some c), .map (some p)])].toArray := by simp
  rw [e]
  refine HC_of_vc (args := [.agg (Array.mk [.map (some c), .map (some p)])]) (base := 2) (cuts := []) (bigs := []) hm Tryz.func110 ?_
  rw [vcSync1]
  exact ⟨keep_push _ _, rfl⟩

theorem DiskP.at {h : Heap} {d c1 p1 c2 p2 : Nat} {A : Option Addr} {n c : Nat} {x : D} {O : Nat → Prop} (hp : DiskP h d c1 p1 c2 p2 A n c x) (hb : ∀ b, blks d c1 p1 c2 p2 A b → O b) (hO : ∀ b, O b → b < h.size) : DiskAt h d x O :=
  ⟨hO, c1, p1, c2, p2, A, n, c, hp, hb⟩

theorem sync_spec {h : Heap} {d : Nat} {x : D} {O : Nat → Prop} {s : Str} (hd : DiskAt h d x O) (hwn : x.waits.length ≤ 1073741824) :
    HC Tryz.prog 71 #[.pointer (some ⟨d, 0, none⟩), .string s] h
      fun v h' => ∃ O', DiskAt h' d (sync x s).2 O' ∧ (∀ q, O' q → O q ∨ h.size ≤ q) ∧ Upd O h h' ∧ v = .int .i64 (sync x s).1 := by
  refine HC_of_vc (args := [.pointer (some ⟨d, 0, none⟩), .string s]) (base := 15) (cuts := []) (bigs := []) hm Tryz.func71 ?_
  rw [vcSync]
  refine does_spec (by kernel_rfl) hd hwn (fun h' O' e he h0 hd' sub u => ?_) fun h1 c1 p1 c2 p2 A n c hm1 hp hb u1 => (sync1_spec h1 c1 p1).mono ?_
  · have hs : sync x s = may x s := by
      unfold sync
      cases hm0 : may x s with
      | mk e' d1 =>
        rw [hm0] at he
        simp only at he ⊢
        rw [if_neg (by rw [he]; exact h0)]
    refine ⟨_, rfl, br_intro (fun h1 => absurd (by simpa using h1) h0) fun _ => ⟨O', ?_, sub, u, ?_⟩⟩
    · rw [hs]; exact hd'
    · rw [hs, he]
  · rintro v h2 ⟨k2, rfl⟩
    have hs : sync x s = (0, { act x with safe := put s (pgs x.now s) x.safe, waits := drop x.waits s 0 }) := by
      unfold sync; rw [hm1]; rfl
    have hO : ∀ b, O b → b < h2.size := fun b h0 => Nat.lt_of_lt_of_le (Nat.lt_of_lt_of_le (hd.1 b h0) u1.size) k2.size
    have hd2 : DiskAt h2 d (act x) O := (hp.upd (k2.upd fun _ => False) fun _ _ h => h).at hb hO
    refine ⟨rfl, _, rfl, br_intro (fun _ => (settle_spec hd2 hwn).mono ?_) (fun e => by cases e)⟩
    rintro v h4 ⟨hd4, u4, rfl⟩
    rw [hs]
    exact ⟨rfl, O, hd4, fun q h => .inl h, u1.trans ((k2.upd O).trans u4), rfl⟩

end Go.Proofs.YthkhaobmhheoaaaGreat
end

section
set_option linter.unusedVariables false
set_option linter.unusedSimpArgs false
set_option maxRecDepth 100000
namespace Go.Proofs.YthkhaobmhheoaaaGreat
open Go Go.Vc Go.Proofs Go.Dk

theorem Like.del {F : Fs} {mc : List (Str × Int)} {mp : List ((Str × Int) × Str)} (hl : Like F mc mp) (hn : (mKeys mc).Nodup) (s : Str) (he : pgs F s = []) : Like (del s F) (mDel mc s) mp := by
  have hp : ∀ m, pgs (Dk.del s F) m = pgs F m := fun m => by
    rw [Dk.pgs_del]; split
    · rename_i e; subst e; exact he.symm
    · rfl
  refine ⟨fun m => ?_, fun m i => ?_, fun m i hi => ?_⟩
  · rw [mGet_del hn, get_del]
    by_cases e : s = m
    · subst e; simp
    · rw [if_neg e, if_neg (Ne.symm e)]; exact hl.count m
  · have := hl.page m i; unfold pg at this ⊢; rw [hp]; exact this
  · rw [hp]; exact hl.there m i hi

theorem rem1_spec {h : Heap} {c p q : Nat} {F : Fs} {s : Str} (hs : SideAt h c p F) (hF : SrtF F) (hne : c ≠ p) (hlen : (pgs F s).length < 4611686018427387904) (hx : boxS q s h) (hq : q ≠ c ∧ q ≠ p) :
    HC Tryz.prog 89 #[.agg #[.map (some c), .map (some p)], .pointer (some ⟨q, 0, none⟩)] h
      fun v h' => SideAt h' c p (del s F) ∧ Upd (two c p) h h' ∧ v = .tuple #[] := by
  refine HC_of_vc (args := [.agg #[.map (some c), .map (some p)], .pointer (some ⟨q, 0, none⟩)]) (base := 9) (cuts := []) (bigs := []) hm Tryz.func89 ?_
  rw [vcRemove1]
  have kH := keep_push h (Obj.cells (Array.mk [Value.map (some c), Value.map (some p)]) 94 (0, 0))
  have b0 := push_at h (Obj.cells (Array.mk [Value.map (some c), Value.map (some p)]) 94 (0, 0))
  have hl := hs.lt
  have hs1 := hs.upd (kH.upd fun _ => False) (fun h => h) (fun h => h)
  have x1 := kH.at hx (at_lt hx)
  refine ⟨some c, some p, reads_load_agg (cs := [Value.map (some c), Value.map (some p)]) agSide rfl (cells_all b0), s, reads_load scS (cell_cells0 x1 rfl), (cutS_spec (k := 0) hs1 hF hne (by omega) hlen).mono ?_⟩
  rintro v h4 ⟨s4, u4, rfl⟩
  rw [List.take_zero] at s4
  have b4 := u4.at b0 (by rintro (e | e) <;> omega)
  have x4 := u4.at x1 (by rintro (e | e) <;> omega)
  obtain ⟨mc, mp, hc, hp, hl4⟩ := s4
  have hnd : (mKeys mc).Nodup := by obtain ⟨_, _, _, _, h0, _⟩ := hc; exact h0
  refine ⟨rfl, some c, reads_load scMc (cell_cells0 b4 rfl), s, reads_load scS (cell_cells0 x4 rfl), svc_delete (M := Mc) (k := s) hc fun h8 s8 u8 m8 => ⟨rfl, ⟨_, _, m8, hp.upd u8 (Ne.symm hne), ?_⟩, (kH.upd _).trans (u4.trans (u8.mono fun b e => .inl e)), by first | rfl | trivial⟩⟩
  have := hl4.del hnd s (by rw [Dk.pgs_put hF, if_pos rfl])
  rw [del_put hF] at this
  exact this

theorem box_side2 {h : Heap} {d c1 p1 c2 p2 : Nat} {A : Option Addr} {n c : Nat} {x : D} (hb : h[d]? = some (.cells (diskC c1 p1 c2 p2 A n c x).toArray 98 (0, 0))) :
    Reads Tryz.prog (Instr.loadAt 94 (.pointer (some ((⟨d, 0, none⟩ : Addr).add 2)))) h (.agg (Array.mk [.map (some c2), .map (some p2)])) :=
  reads_load_agg (cs := [.map (some c2), .map (some p2)]) agSide rfl (cells_part hb fun j v hj => by
    match j, hj with
    | 0, hj => simpa [diskC] using hj
    | 1, hj => simpa [diskC] using hj
    | j + 2, hj => simp at hj)

theorem pred_remove (q : Nat) (s : Str) : PredC 93 (Array.mk [.pointer (some ⟨q, 0, none⟩)]) (fun w => decide (w.n = s)) (boxS q s) := by
  refine ⟨by kernel_rfl, fun h w hx => ?_⟩
  have e : (Array.mk [Value.agg (WtE.enc w).toArray] ++ Array.mk [Value.pointer (some ⟨q, 0, none⟩)]) = [Value.agg (WtE.enc w).toArray, Value.pointer (some ⟨q, 0, none⟩)].toArray := by simp
  rw [e]
  refine HC_of_vc (args := [.agg (WtE.enc w).toArray, .pointer (some ⟨q, 0, none⟩)]) (base := 9) (cuts := []) (bigs := []) hm Tryz.func93 ?_
  rw [vcRemove2]
  have kp := keep_push h (.cells (WtE.enc w).toArray 105 (0, 0))
  refine ⟨w.n, reads_load scS (cell_cells0 (push_at h (.cells (WtE.enc w).toArray 105 (0, 0))) (by simp [WtE])), s, reads_load scS (cell_cells0 (kp.at hx (at_lt hx)) rfl), kp, ?_⟩
  rw [beq_dec']

theorem two_ne {d c1 p1 c2 p2 : Nat} {A : Option Addr} {h : Heap} {n c : Nat} {x : D} (hp : DiskP h d c1 p1 c2 p2 A n c x) :
    (¬ two c1 p1 d ∧ ¬ two c1 p1 c2 ∧ ¬ two c1 p1 p2 ∧ ∀ b, blk A b → ¬ two c1 p1 b) ∧ (¬ two c2 p2 d ∧ ¬ two c2 p2 c1 ∧ ¬ two c2 p2 p1 ∧ ∀ b, blk A b → ¬ two c2 p2 b) := by
  obtain ⟨q1, q2, q3, q4⟩ := hp.ne_map
  have nd := hp.nd
  simp at nd
  have nw := fun b hb => hp.ne_waits (b := b) hb
  refine ⟨⟨?_, ?_, ?_, fun b hb => ?_⟩, ?_, ?_, ?_, fun b hb => ?_⟩
  all_goals first
    | (have := nw b hb; rintro (e | e) <;> omega)
    | (rintro (e | e) <;> omega)

theorem remove_spec {h : Heap} {d : Nat} {x : D} {O : Nat → Prop} {s : Str} (hd : DiskAt h d x O) (hwn : x.waits.length ≤ 1073741824) :
    HC Tryz.prog 58 #[.pointer (some ⟨d, 0, none⟩), .string s] h
      fun v h' => ∃ O', DiskAt h' d (remove x s).2 O' ∧ (∀ q, O' q → O q ∨ h.size ≤ q) ∧ Upd O h h' ∧ v = .int .i64 (remove x s).1 := by
  refine HC_of_vc (args := [.pointer (some ⟨d, 0, none⟩), .string s]) (base := 30) (cuts := []) (bigs := []) hm Tryz.func58 ?_
  rw [vcRemove]
  have k0 := keep_push h (Obj.cells (Array.mk [Value.string s]) 9 (0, 0))
  have x0 : boxS h.size s (h.push (Obj.cells (Array.mk [Value.string s]) 9 (0, 0))) := push_at _ _
  generalize (h.push (Obj.cells (Array.mk [Value.string s]) 9 (0, 0))) = H at k0 x0
  have hO := hd.1
  have zH := k0.size
  refine ⟨s, reads_load scS (cell_cells0 x0 rfl), does_spec (by kernel_rfl) (hd.keep k0) hwn (fun h' O' e he h0 hd' sub u => ?_) fun h1 c1 p1 c2 p2 A n c hm1 hp hb u1 => ?_⟩
  · have hs : remove x s = may x s := by
      unfold remove
      cases hm0 : may x s with
      | mk e' d1 =>
        rw [hm0] at he
        simp only at he ⊢
        rw [if_neg (by rw [he]; exact h0)]
    refine ⟨_, rfl, br_intro (fun h1 => absurd (by simpa using h1) h0) fun _ => ⟨O', ?_, fun q h => (sub q h).imp id fun h => by omega, (k0.upd O).trans u, ?_⟩⟩
    · rw [hs]; exact hd'
    · rw [hs, he]
  · have hs : remove x s = (0, { act x with now := del s x.now, safe := del s x.safe, waits := drop x.waits s 0 }) := by
      unfold remove; rw [hm1]; rfl
    have e : (Array.mk [Value.agg (Array.mk [.map (some c1), .map (some p1)])] ++ Array.mk [Value.pointer (some ⟨h.size, 0, none⟩)]) = #[Value.agg #[.map (some c1), .map (some p1)], Value.pointer (some ⟨h.size, 0, none⟩)] := by simp
    rw [e]
    have nd := hp.nd
    simp at nd
    have hlt : ∀ b, blks d c1 p1 c2 p2 A b → b < h.size := fun b h0 => hO b (hb b h0)
    have x1 : boxS h.size s h1 := u1.at x0 fun h0 => by have := hO _ h0; omega
    have l1 := len_now hp.ok s
    have l2 := hp.ok.fewer s
    obtain ⟨⟨t1, t2, t3, t4⟩, t5, t6, t7, t8⟩ := two_ne hp
    refine (rem1_spec hp.now hp.ok.now (by omega) (by omega) x1 ⟨fun e => by have := hlt c1 (.inr (.inl rfl)); omega, fun e => by have := hlt p1 (.inr (.inr (.inl rfl))); omega⟩).mono ?_
    rintro v h2 ⟨s2, u2, rfl⟩
    have b2 := u2.at hp.box t1
    have x2 := u2.at x1 (fun h0 => by have := hlt _ (two_blks1 _ h0); omega)
    refine ⟨rfl, _, rfl, br_intro (fun _ => ?_) (fun e => by cases e)⟩
    refine ⟨_, rfl, _, _, box_side2 b2, (rem1_spec (hp.safe.upd u2 t2 t3) hp.ok.safe (by omega) (by omega) x2 ⟨fun e => by have := hlt c2 (.inr (.inr (.inr (.inl rfl)))); omega, fun e => by have := hlt p2 (.inr (.inr (.inr (.inr (.inl rfl))))); omega⟩).mono ?_⟩
    rintro v h8 ⟨s8, u8, rfl⟩
    have b8 := u8.at b2 t5
    have x8 := u8.at x2 (fun h0 => by have := hlt _ (two_blks2 _ h0); omega)
    have w8 := (hp.waits.upd u2 t4).upd u8 t8
    have nw := fun q hq => hp.ne_waits (b := q) hq
    have nm := hp.ne_map
    refine ⟨rfl, _, rfl, A, n, c, reads_load scWs (cell_cells b8 (by simp [diskC])), (delF_spec (X := boxS h.size s) (pred_remove h.size s) (fun a b ha k => k.at ha (at_lt ha)) (fun a b ha u => u.at ha fun hq => by have := hlt h.size (.inr (.inr (.inr (.inr (.inr hq))))); omega) w8 x8 (by have := hp.waits.1; have : x.waits.length = n := this; omega)).mono ?_⟩
    rintro v h14 ⟨o14, u14, rfl⟩
    have b14 := u14.at b8 fun h0 => (nw _ h0).1 rfl
    refine ⟨_, _, _, rfl, _, rfl, svc_store_box szWs b14 (by simp [diskC]) rfl (one_slice _ _ _) fun h20 s20 b20 u20 => ?_⟩
    have ub : Upd (blks d c1 p1 c2 p2 A) h1 h20 := (u2.mono two_blks1).trans ((u8.mono two_blks2).trans ((u14.mono fun q h => .inr (.inr (.inr (.inr (.inr h))))).trans (u20.mono fun q e => .inl e)))
    have uall : Upd O h h20 := (k0.upd O).trans (u1.trans (ub.mono hb))
    rw [hs]
    refine ⟨O, ⟨fun q h0 => Nat.lt_of_lt_of_le (hO q h0) uall.size, c1, p1, c2, p2, A, (x.waits.filter fun w => !decide (w.n = s)).length, c, ⟨?_, ?_, ?_, ?_, hp.nd, ok_remove hp.ok s⟩, hb⟩, fun q h => .inl h, uall, rfl⟩
    · rw [b20]; simp [diskC, act]
    · exact ((s2.upd u8 t6 t7).upd u14 (fun h => (nw _ h).2.1 rfl) (fun h => (nw _ h).2.2.1 rfl)).upd u20 (Ne.symm nm.1) (Ne.symm nm.2.1)
    · exact (s8.upd u14 (fun h => (nw _ h).2.2.2.1 rfl) (fun h => (nw _ h).2.2.2.2 rfl)).upd u20 (Ne.symm nm.2.2.1) (Ne.symm nm.2.2.2)
    · show Own _ _ _ _ _ _ _ (drop x.waits s 0)
      rw [drop0]
      exact o14.upd u20 fun q hq => (nw _ hq).1
theorem may_ok {x y : D} {s : Str} (h : may x s = (0, y)) : x.down = false ∧ ∃ l, mGet x.now s = some l := by
  unfold may at h
  cases hd : x.down with
  | true => simp [hd] at h
  | false =>
    cases hg : mGet x.now s with
    | none => simp [hd, hg] at h
    | some l => exact ⟨rfl, l, rfl⟩
end Go.Proofs.YthkhaobmhheoaaaGreat
end

section
set_option linter.unusedVariables false
set_option linter.unusedSimpArgs false
set_option maxRecDepth 100000
namespace Go.Proofs.YthkhaobmhheoaaaGreat
open Go Go.Vc Go.Proofs Go.Dk

/-- a disk in blocks that are newer than h0, which stands. -/
def St (h0 : Heap) (d : Nat) (x : D) (h : Heap) : Prop := ∃ O, DiskAt h d x O ∧ (∀ q, O q → h0.size ≤ q) ∧ Keep h0.size h0 h
section
variable {h0 h h' : Heap} {d : Nat} {x x' : D}
theorem St.base (hs : St h0 d x h) : Keep h0.size h0 h := let ⟨_, _, _, k⟩ := hs; k
theorem St.keep (hs : St h0 d x h) (k : Keep h.size h h') : St h0 d x h' := let ⟨O, h1, h2, h3⟩ := hs; ⟨O, h1.keep k, h2, h3.trans (k.mono h3.size)⟩
theorem St.step {O : Nat → Prop} (h1 : DiskAt h d x O) (h2 : ∀ q, O q → h0.size ≤ q) (h3 : Keep h0.size h0 h) (r : ∃ O', DiskAt h' d x' O' ∧ (∀ q, O' q → O q ∨ h.size ≤ q) ∧ Upd O h h') : St h0 d x' h' := by
  obtain ⟨O', a, b, c⟩ := r
  exact ⟨O', a, fun q hq => (b q hq).elim (h2 q) fun e => Nat.le_trans h3.size e, h3.trans (c.keep h3.size h2)⟩
theorem St.new (k : Keep h0.size h0 h) (room : Int) : HC Tryz.prog 16 #[.int .i64 room] h fun v h' => ∃ d, v = .pointer (some ⟨d, 0, none⟩) ∧ St h0 d (new room) h' :=
  (new_spec h room).mono fun v h' ⟨k1, d, e, hd⟩ => ⟨d, e, _, hd, fun q hq => Nat.le_trans k.size hq.1, k.trans (k1.mono k.size)⟩
theorem St.write (hs : St h0 d x h) {s b : Str} {i : Int} {A : Option Addr} {n c : Nat} (hsl : Sl ByteE h A n (bytesL b)) (hA : ∀ O q, DiskAt h d x O → (∀ q, O q → h0.size ≤ q) → blk A q → ¬ O q) (hw : x.waits.length < 1073741824) :
    HC Tryz.prog 17 #[.pointer (some ⟨d, 0, none⟩), .string s, .int .i64 i, .slice A n c] h fun v h' => St h0 d (Dk.write x s i b).2 h' ∧ v = .int .i64 (Dk.write x s i b).1 := by
  obtain ⟨O, h1, h2, h3⟩ := hs
  exact (write_spec h1 hsl (fun q hq => hA O q h1 h2 hq) hw).mono fun v h' ⟨O', a, b, c, e⟩ => ⟨St.step h1 h2 h3 ⟨O', a, b, c⟩, e⟩
theorem St.off (hs : St h0 d x h) {keep : Int} (hk : 0 ≤ keep ∧ keep < 18446744073709551616) (hw : x.waits.length ≤ 1073741824) :
    HC Tryz.prog 31 #[.pointer (some ⟨d, 0, none⟩), .int .u64 keep] h fun v h' => St h0 d (Dk.off keep x) h' ∧ v = .tuple #[] := by
  obtain ⟨O, h1, h2, h3⟩ := hs
  exact (off_spec h1 hk hw).mono fun v h' ⟨O', a, b, c, e⟩ => ⟨St.step h1 h2 h3 ⟨O', a, b, c⟩, e⟩
theorem St.on (hs : St h0 d x h) : HC Tryz.prog 29 #[.pointer (some ⟨d, 0, none⟩)] h fun v h' => St h0 d (Dk.on x) h' ∧ v = .tuple #[] := by
  obtain ⟨O, h1, h2, h3⟩ := hs
  exact (on_spec h1).mono fun v h' ⟨a, c, e⟩ => ⟨St.step h1 h2 h3 ⟨O, a, fun q h => .inl h, c⟩, e⟩
theorem St.arm (hs : St h0 d x h) {n keep : Int} (hn : n ≤ 9223372036854775807) (hk : 0 ≤ keep ∧ keep < 18446744073709551616) :
    HC Tryz.prog 25 #[.pointer (some ⟨d, 0, none⟩), .int .i64 n, .int .u64 keep] h fun v h' => St h0 d (Dk.arm x n keep) h' ∧ v = .tuple #[] := by
  obtain ⟨O, h1, h2, h3⟩ := hs
  exact (arm_spec h1 hn hk).mono fun v h' ⟨a, c, e⟩ => ⟨St.step h1 h2 h3 ⟨O, a, fun q h => .inl h, c⟩, e⟩
theorem St.sync (hs : St h0 d x h) {s : Str} (hw : x.waits.length ≤ 1073741824) :
    HC Tryz.prog 71 #[.pointer (some ⟨d, 0, none⟩), .string s] h fun v h' => St h0 d (Dk.sync x s).2 h' ∧ v = .int .i64 (Dk.sync x s).1 := by
  obtain ⟨O, h1, h2, h3⟩ := hs
  exact (sync_spec h1 hw).mono fun v h' ⟨O', a, b, c, e⟩ => ⟨St.step h1 h2 h3 ⟨O', a, b, c⟩, e⟩
theorem St.remove (hs : St h0 d x h) {s : Str} (hw : x.waits.length ≤ 1073741824) :
    HC Tryz.prog 58 #[.pointer (some ⟨d, 0, none⟩), .string s] h fun v h' => St h0 d (Dk.remove x s).2 h' ∧ v = .int .i64 (Dk.remove x s).1 := by
  obtain ⟨O, h1, h2, h3⟩ := hs
  exact (remove_spec h1 hw).mono fun v h' ⟨O', a, b, c, e⟩ => ⟨St.step h1 h2 h3 ⟨O', a, b, c⟩, e⟩
theorem St.count (hs : St h0 d x h) (s : Str) : HC Tryz.prog 74 #[.pointer (some ⟨d, 0, none⟩), .string s] h fun v h' => h' = h ∧ v = .int .i64 (Dk.count x s) := by
  obtain ⟨O, h1, h2, h3⟩ := hs; exact count_spec h1 s
theorem St.has (hs : St h0 d x h) (s : Str) : HC Tryz.prog 56 #[.pointer (some ⟨d, 0, none⟩), .string s] h fun v h' => h' = h ∧ v = .bool (Dk.has x s) := by
  obtain ⟨O, h1, h2, h3⟩ := hs; exact has_spec h1 s
theorem St.free (hs : St h0 d x h) : HC Tryz.prog 24 #[.pointer (some ⟨d, 0, none⟩)] h fun v h' => St h0 d x h' ∧ v = .int .i64 (Dk.free x) := by
  have hs0 := hs
  obtain ⟨O, h1, h2, h3⟩ := hs
  exact (free_spec h1).mono fun v h' ⟨k, e⟩ => ⟨hs0.keep k, e⟩
theorem St.read (hs : St h0 d x h) (s : Str) (i : Int) : HC Tryz.prog 94 #[.pointer (some ⟨d, 0, none⟩), .string s, .int .i64 i] h
    fun v h' => St h0 d x h' ∧ Keep h.size h h' ∧ ∃ b m, v = .tuple #[.slice (if m = 0 then none else some ⟨b, 0, none⟩) m m, .int .i64 (Dk.read x s i).2] ∧ m = (Dk.read x s i).1.size ∧ h.size ≤ b ∧
        (m ≠ 0 → h'[b]? = some (.cells (((bytesL (Dk.read x s i).1).map fun b => Value.int .u8 (b.toNat : Nat))).toArray 103 (0, 0))) := by
  have hs0 := hs
  obtain ⟨O, h1, h2, h3⟩ := hs
  exact (read_spec h1 s i).mono fun v h' ⟨k, r⟩ => ⟨hs0.keep k, k, r⟩
/-- a write of a slice that is newer than the disk. -/
theorem St.write' (hs : St h0 d x h) (k : Keep h.size h h') {s b : Str} {i : Int} {A : Option Addr} {n c : Nat} (hsl : Sl ByteE h' A n (bytesL b)) (hA : ∀ q, blk A q → h.size ≤ q) (hw : x.waits.length < 1073741824) :
    HC Tryz.prog 17 #[.pointer (some ⟨d, 0, none⟩), .string s, .int .i64 i, .slice A n c] h' fun v h' => St h0 d (Dk.write x s i b).2 h' ∧ v = .int .i64 (Dk.write x s i b).1 := by
  obtain ⟨O, h1, h2, h3⟩ := hs
  exact (write_spec (h1.keep k) hsl (fun q hq hO => by have := hA q hq; have := h1.1 q hO; omega) hw).mono fun v h' ⟨O', a, b, c, e⟩ => ⟨St.step (h1.keep k) h2 (h3.trans (k.mono h3.size)) ⟨O', a, b, c⟩, e⟩
/-- a write of a slice that stands ahead of the disk. -/
theorem St.writeIn (hs : St h0 d x h) {s b : Str} {i : Int} {A : Option Addr} {n c : Nat} (hsl : Sl ByteE h0 A n (bytesL b)) (hw : x.waits.length < 1073741824) :
    HC Tryz.prog 17 #[.pointer (some ⟨d, 0, none⟩), .string s, .int .i64 i, .slice A n c] h fun v h' => St h0 d (Dk.write x s i b).2 h' ∧ v = .int .i64 (Dk.write x s i b).1 := by
  obtain ⟨O, h1, h2, h3⟩ := hs
  refine (write_spec0 h1 (hsl.keep h3) (fun hn q hq hO => ?_) hw).mono fun v h' ⟨O', a, b, c, e⟩ => ⟨St.step h1 h2 h3 ⟨O', a, b, c⟩, e⟩
  have hlen := hsl.1
  obtain ⟨p, hp, hc⟩ := hsl.get (i := 0) (List.getElem?_eq_getElem (by omega))
  obtain ⟨p', e, hq'⟩ := hq
  rw [hp] at e
  cases e
  have h4 := cell_lt (hc 0 _ rfl)
  rw [Addr.add_block, hq'] at h4
  have := h2 q hO
  omega
/-- a block that was just laid is none of the disk's. -/
theorem fresh_blk {B : Nat} (hB : h.size ≤ B) : ∀ O q, DiskAt h d x O → (∀ q, O q → h0.size ≤ q) → blk (some (⟨B, 0, none⟩ : Addr)) q → ¬ O q := fun O q hd _ hq hO => by
  obtain ⟨a, e, eq⟩ := hq
  cases e
  have h1 := hd.1 q hO
  have h2 : B = q := eq
  omega
end

end Go.Proofs.YthkhaobmhheoaaaGreat
end

section
set_option linter.unusedVariables false
set_option linter.unusedSimpArgs false
set_option maxRecDepth 100000
namespace Go.Proofs.YthkhaobmhheoaaaGreat
open Go Go.Vc Go.Proofs Go.Dk

theorem Like.move {F : Fs} {mc : List (Str × Int)} {mp mp' : List ((Str × Int) × Str)} {a b : Str} (hab : a ≠ b) (hF : SrtF F) (hl : Like (put b [] F) mc mp) (hn : (mKeys (mPut mc b ((pgs F a).length : Int))).Nodup)
    (hm : ∀ q j, mGet mp' (q, j) = if q = a ∧ 0 ≤ j ∧ j < ((pgs F a).length : Int) then none else if q = b ∧ 0 ≤ j ∧ j < ((pgs F a).length : Int) then mGet mp (a, j) else mGet mp (q, j)) :
    Like (moved a b F) (mDel (mPut mc b ((pgs F a).length : Int)) a) mp' := by
  have pG : ∀ q, pgs (put b [] F) q = if q = b then [] else pgs F q := fun q => Dk.pgs_put hF _ _ _
  have nb : ∀ j, mGet mp (b, j) = none := fun j => by
    cases hg : mGet mp (b, j) with
    | none => rfl
    | some _ =>
      have := hl.there b j (by rw [hg]; rfl)
      rw [pG, if_pos rfl] at this
      simp at this; omega
  have ga : ∀ j, (mGet mp (a, j)).isSome = true → 0 ≤ j ∧ j < ((pgs F a).length : Int) := fun j hj => by
    have := hl.there a j hj
    rw [pG, if_neg hab] at this; exact this
  refine ⟨fun q => ?_, fun q j => ?_, fun q j hj => ?_⟩
  · rw [mGet_del hn, mGet_put, get_moved hF]
    by_cases e1 : q = b
    · subst e1; rw [if_neg hab, if_pos rfl, if_pos rfl]; try rfl
    · by_cases e2 : q = a
      · subst e2; rw [if_pos rfl, if_neg e1, if_pos rfl]; try rfl
      · rw [if_neg (Ne.symm e2), if_neg (Ne.symm e1), if_neg e1, if_neg e2, hl.count, get_put hF, if_neg e1]
  · rw [hm]
    unfold pg
    rw [pgs_moved hF]
    by_cases e2 : q = a
    · subst e2
      rw [if_neg hab, if_pos rfl]
      have hz : (if (0 : Int) ≤ j then ([] : List Str).getD j.toNat zp else zp) = zp := by split <;> rfl
      rw [hz]
      by_cases hr : 0 ≤ j ∧ j < ((pgs F q).length : Int)
      · rw [if_pos ⟨rfl, hr⟩]; rfl
      · rw [if_neg (fun h => hr h.2), if_neg (fun h => hab h.1)]
        cases hg : mGet mp (q, j) with
        | none => rfl
        | some _ => exact absurd (ga j (by rw [hg]; rfl)) hr
    · rw [if_neg (fun h => e2 h.1)]
      by_cases e1 : q = b
      · subst e1
        rw [if_pos rfl]
        by_cases hr : 0 ≤ j ∧ j < ((pgs F a).length : Int)
        · rw [if_pos ⟨rfl, hr⟩, hl.page a j]
          unfold pg
          rw [pG, if_neg hab]
        · rw [if_neg (fun h => hr h.2), nb]
          by_cases h0 : 0 ≤ j
          · rw [if_pos h0, List.getD_eq_getElem?_getD, List.getElem?_eq_none (by omega)]; try rfl
          · rw [if_neg h0]; rfl
      · rw [if_neg (fun h => e1 h.1), if_neg e1, if_neg e2, hl.page q j]
        unfold pg
        rw [pG, if_neg e1]
  · rw [hm] at hj
    rw [pgs_moved hF]
    by_cases e2 : q = a
    · subst e2
      by_cases hr : 0 ≤ j ∧ j < ((pgs F q).length : Int)
      · rw [if_pos ⟨rfl, hr⟩] at hj; cases hj
      · rw [if_neg (fun h => hr h.2), if_neg (fun h => hab h.1)] at hj
        exact absurd (ga j hj) hr
    · rw [if_neg (fun h => e2 h.1)] at hj
      by_cases e1 : q = b
      · subst e1
        rw [if_pos rfl]
        by_cases hr : 0 ≤ j ∧ j < ((pgs F a).length : Int)
        · exact hr
        · rw [if_neg (fun h => hr h.2), nb] at hj; cases hj
      · rw [if_neg (fun h => e1 h.1)] at hj
        rw [if_neg e1, if_neg e2]
        have := hl.there q j hj
        rw [pG, if_neg e1] at this; exact this

theorem move_spec {h : Heap} {c p : Nat} {F : Fs} {a b : Str} (hs : SideAt h c p F) (hF : SrtF F) (hne : c ≠ p) (hab : a ≠ b) (hla : (pgs F a).length < 4611686018427387904) (hlb : (pgs F b).length < 4611686018427387904) :
    HC Tryz.prog 114 #[.agg #[.map (some c), .map (some p)], .string a, .string b] h
      fun v h' => SideAt h' c p (moved a b F) ∧ Upd (two c p) h h' ∧ v = .tuple #[] := by
  refine HC_of_vc (args := [.agg #[.map (some c), .map (some p)], .string a, .string b]) (base := 51) (cuts := []) (bigs := []) hm Tryz.func114 ?_
  rw [vcMove]
  have kH := keep_push h (Obj.cells (Array.mk [Value.map (some c), Value.map (some p)]) 94 (0, 0))
  have b0 := push_at h (Obj.cells (Array.mk [Value.map (some c), Value.map (some p)]) 94 (0, 0))
  have hl0 := hs.lt
  refine ⟨some c, some p, reads_load_agg (cs := [Value.map (some c), Value.map (some p)]) agSide rfl (cells_all b0), (cutS_spec (k := 0) (hs.upd (kH.upd fun _ => False) (fun h => h) (fun h => h)) hF hne (by omega) hlb).mono ?_⟩
  rintro v h3 ⟨s3, u3, rfl⟩
  rw [List.take_zero] at s3
  have b3 := u3.at b0 (by rintro (e | e) <;> omega)
  obtain ⟨mc, mp, hc, hp, hl⟩ := s3
  have hnc : (mKeys mc).Nodup := by obtain ⟨_, _, _, _, h0, _⟩ := hc; exact h0
  have hnp : (mKeys mp).Nodup := by obtain ⟨_, _, _, _, h0, _⟩ := hp; exact h0
  have pGa : pgs (put b [] F) a = pgs F a := by rw [Dk.pgs_put hF, if_neg hab]
  have nb : ∀ j, mGet mp (b, j) = none := fun j => by
    cases hg : mGet mp (b, j) with
    | none => rfl
    | some _ =>
      have := hl.there b j (by rw [hg]; rfl)
      rw [Dk.pgs_put hF, if_pos rfl] at this
      simp at this; omega
  have rc := reads_count hc hl a
  rw [pGa] at rc
  refine ⟨rfl, some c, reads_load scMc (cell_cells0 b3 rfl), _, rc, ?_⟩
  refine ⟨fun n8 h9 => ∃ (i : Nat) (mp' : List ((Str × Int) × Str)), n8 = i ∧ i ≤ (pgs F a).length ∧ h9[h.size]? = some (Obj.cells (Array.mk [Value.map (some c), Value.map (some p)]) 94 (0, 0)) ∧ MapAt Mc h9 c mc ∧ MapAt Mp h9 p mp' ∧ (mKeys mp').Nodup ∧
      (∀ q j, mGet mp' (q, j) = if q = a ∧ 0 ≤ j ∧ j < (i : Int) then none else if q = b ∧ 0 ≤ j ∧ j < (i : Int) then mGet mp (a, j) else mGet mp (q, j)) ∧ Upd (two c p) h h9,
    fun n8 _ => (pgs F a).length - n8.toNat, ⟨0, mp, rfl, by omega, b3, hc, hp, hnp, fun q j => by rw [if_neg (by omega), if_neg (by omega)], (kH.upd _).trans u3⟩, ?_⟩
  rintro n8 h9 ⟨i, mp', rfl, hi, b9, c9, p9, nd9, m9, u9⟩
  refine br_intro (fun hlt => ?_) (fun hge => ?_)
  · have hlt : i < (pgs F a).length := by have : (i : Int) < (pgs F a).length := by simpa using hlt
                                          omega
    have hwi : IntKind.i64.wrap ((i : Int) + 1) = ((i + 1 : Nat) : Int) := by rw [wrap_i64 (by omega) (by omega)]; rfl
    have hlk := (reads_lookup (k := (a, (i : Int))) p9 zP).2
    have hai : mGet mp' (a, (i : Int)) = mGet mp (a, (i : Int)) := by rw [m9, if_neg (by omega), if_neg (fun h => hab h.1)]
    have hzs : (zc Tryz.prog 103).size = 512 := zcPage
    have stp : ∀ (q : Str) {K : Unit → Heap → Prop}, K () (h9.push (.cells (pgC q).toArray 103 (0, 0))) →
        SVC Tryz.prog (Instr.storeAt 103 (.pointer (some ⟨h9.size, 0, none⟩)) (pv q)) (h9.push (.cells (zc Tryz.prog 103) 103 (0, 0))) K := fun q K hk => by
      refine svc_store_new (v := pv q) ?_ ?_ ?_ hk
      · show szOf _ _ = some (pgC _).toArray.size; rw [List.size_toArray, pgC_len]; exact szPage
      · exact zcPage.trans (pgC_len _).symm
      · exact pgC_one _
    refine ⟨some p, reads_load scMp (cell_cells b9 rfl), ?_⟩
    cases hg : mGet mp' (a, (i : Int)) with
    | some q =>
      rw [hg] at hlk
      refine ⟨(pgC q).toArray, true, hlk, zc Tryz.prog 103, ⟨rfl⟩, stp q ?_⟩
      have hat := push_at h9 (.cells (pgC q).toArray 103 (0, 0))
      have kp := keep_push h9 (.cells (pgC q).toArray 103 (0, 0))
      have b15 := kp.at b9 (at_lt b9)
      have hlp := p9.lt
      refine br_intro (fun _ => ?_) (fun e => by cases e)
      refine ⟨some p, reads_load scMp (cell_cells b15 rfl), (pgC q).toArray, reads_load_agg agPage (pgC_len q) (cells_all hat), svc_mapUpdate (M := Mp) (k := (b, (i : Int))) (v := q) (p9.keep kp) fun h19 s19 u19 m19 => ?_⟩
      have b19 := u19.at b15 (by omega)
      refine ⟨some p, reads_load scMp (cell_cells b19 rfl), svc_delete (M := Mp) (k := (a, (i : Int))) m19 fun h22 s22 u22 m22 => ⟨rfl, ?_⟩⟩
      rw [hwi]
      have nd19 := mNodup_put (v := q) nd9 (b, (i : Int))
      have u2 : Upd (two c p) h9 h22 := (kp.upd _).trans ((u19.mono fun x e => .inr e).trans (u22.mono fun x e => .inr e))
      refine ⟨⟨i + 1, _, rfl, hlt, u22.at b19 (by omega), ((c9.keep kp).upd u19 hne).upd u22 hne, m22, mNodup_del nd19 _, fun r j => ?_, u9.trans u2⟩, by dsimp only; omega⟩
      rw [mGet_del nd19, mGet_put, m9]
      by_cases e1 : (a, (i : Int)) = (r, j)
      · cases e1; rw [if_pos rfl, if_pos ⟨rfl, by omega, by omega⟩]
      · rw [if_neg e1]
        by_cases e2 : (b, (i : Int)) = (r, j)
        · cases e2
          rw [if_pos rfl, if_neg (fun h => hab h.1.symm), if_pos ⟨rfl, by omega, by omega⟩, ← hai, hg]
        · rw [if_neg e2]
          have hj : ∀ s, r = s → (s, (i : Int)) ≠ (r, j) → j ≠ i := fun s h1 h2 h3 => h2 (by rw [h3, h1])
          by_cases f1 : r = a
          · have := hj a f1 e1
            by_cases hr : 0 ≤ j ∧ j < (i : Int)
            · rw [if_pos ⟨f1, hr⟩, if_pos ⟨f1, by omega, by omega⟩]
            · rw [if_neg (fun h => hr h.2), if_neg (fun h => hab (f1 ▸ h.1)), if_neg (fun h => hr ⟨h.2.1, by omega⟩), if_neg (fun h => hab (f1 ▸ h.1))]
          · simp only [f1, false_and, if_false]
            by_cases f2 : r = b
            · have := hj b f2 e2
              by_cases hr : 0 ≤ j ∧ j < (i : Int)
              · rw [if_pos ⟨f2, hr⟩, if_pos ⟨f2, by omega, by omega⟩]
              · rw [if_neg (fun h => hr h.2), if_neg (fun h => hr ⟨h.2.1, by omega⟩)]
            · rw [if_neg (fun h => f2 h.1), if_neg (fun h => f2 h.1)]
    | none =>
      rw [hg] at hlk
      refine ⟨(pgC zp).toArray, false, hlk, zc Tryz.prog 103, ⟨rfl⟩, stp zp ?_⟩
      have kp := keep_push h9 (.cells (pgC zp).toArray 103 (0, 0))
      refine br_intro (fun e => by cases e) (fun _ => ?_)
      rw [hwi]
      refine ⟨⟨i + 1, mp', rfl, hlt, kp.at b9 (at_lt b9), c9.keep kp, p9.keep kp, nd9, fun r j => ?_, u9.trans (kp.upd _)⟩, by dsimp only; omega⟩
      by_cases f1 : r = a
      · by_cases hr : j = i
        · subst hr; rw [f1, hg, if_pos ⟨rfl, by omega, by omega⟩]
        · rw [m9]
          by_cases hr2 : 0 ≤ j ∧ j < (i : Int)
          · rw [if_pos ⟨f1, hr2⟩, if_pos ⟨f1, by omega, by omega⟩]
          · rw [if_neg (fun h => hr2 h.2), if_neg (fun h => hab (f1 ▸ h.1)), if_neg (fun h => hr2 ⟨h.2.1, by omega⟩), if_neg (fun h => hab (f1 ▸ h.1))]
      · rw [m9]
        simp only [f1, false_and, if_false]
        by_cases f2 : r = b
        · by_cases hr : j = i
          · subst hr
            rw [f2, if_neg (by omega), if_pos ⟨rfl, by omega, by omega⟩, nb, ← hai, hg]
          · by_cases hr2 : 0 ≤ j ∧ j < (i : Int)
            · rw [if_pos ⟨f2, hr2⟩, if_pos ⟨f2, by omega, by omega⟩]
            · rw [if_neg (fun h => hr2 h.2), if_neg (fun h => hr2 ⟨h.2.1, by omega⟩)]
        · rw [if_neg (fun h => f2 h.1), if_neg (fun h => f2 h.1)]
  · have hi' : i = (pgs F a).length := by have : ¬ (i : Int) < (pgs F a).length := by simpa using hge
                                          omega
    subst hi'
    have rc9 := reads_count c9 hl a
    rw [pGa] at rc9
    refine ⟨some c, reads_load scMc (cell_cells0 b9 rfl), some c, reads_load scMc (cell_cells0 b9 rfl), _, rc9, svc_mapUpdate (M := Mc) (k := b) (v := ((pgs F a).length : Int)) c9 fun h27 s27 u27 m27 => ?_⟩
    have hlc := c9.lt
    have b27 := u27.at b9 (by omega)
    have ndc := mNodup_put (v := ((pgs F a).length : Int)) hnc b
    refine ⟨some c, reads_load scMc (cell_cells0 b27 rfl), svc_delete (M := Mc) (k := a) m27 fun h30 s30 u30 m30 => ⟨rfl, ?_⟩⟩
    exact ⟨⟨_, _, m30, (p9.upd u27 (Ne.symm hne)).upd u30 (Ne.symm hne), hl.move hab hF ndc m9⟩, u9.trans ((u27.mono fun x e => .inl e).trans (u30.mono fun x e => .inl e)), by first | rfl | trivial⟩
end Go.Proofs.YthkhaobmhheoaaaGreat
end

section
set_option linter.unusedVariables false
set_option linter.unusedSimpArgs false
set_option maxRecDepth 100000
namespace Go.Proofs.YthkhaobmhheoaaaGreat
open Go Go.Vc Go.Proofs Go.Dk

theorem ren1_spec (h : Heap) (c p : Nat) : HC Tryz.prog 112 (Array.mk [.agg (Array.mk [.map (some c), .map (some p)])] ++ Array.mk []) h fun v h' => Keep h.size h h' ∧ v = .tuple #[] := by
  have e : (Array.mk [Value.agg (Array.mk [.map (some c), .map (some p)])] ++ Array.mk []) = [Value.agg (Array.mk [.map (some c), .map (some p)])].toArray := by simp
  rw [e]
  refine HC_of_vc (args := [.agg (Array.mk [.map (some c), .map (some p)])]) (base := 2) (cuts := []) (bigs := []) hm Tryz.func112 ?_
  rw [vcRename1]
  exact ⟨keep_push _ _, rfl⟩
theorem ren2_spec {h : Heap} {c p q r : Nat} {F : Fs} {a b : Str} (hs : SideAt h c p F) (hF : SrtF F) (hne : c ≠ p) (hab : a ≠ b) (hla : (pgs F a).length < 4611686018427387904) (hlb : (pgs F b).length < 4611686018427387904) (hx : boxS q a h) (hy : boxS r b h) :
    HC Tryz.prog 113 #[.agg #[.map (some c), .map (some p)], .pointer (some ⟨q, 0, none⟩), .pointer (some ⟨r, 0, none⟩)] h
      fun v h' => SideAt h' c p (moved a b F) ∧ Upd (two c p) h h' ∧ v = .tuple #[] := by
  refine HC_of_vc (args := [.agg #[.map (some c), .map (some p)], .pointer (some ⟨q, 0, none⟩), .pointer (some ⟨r, 0, none⟩)]) (base := 8) (cuts := []) (bigs := []) hm Tryz.func113 ?_
  rw [vcRename2]
  have kH := keep_push h (Obj.cells (Array.mk [Value.map (some c), Value.map (some p)]) 94 (0, 0))
  have b0 := push_at h (Obj.cells (Array.mk [Value.map (some c), Value.map (some p)]) 94 (0, 0))
  refine ⟨some c, some p, reads_load_agg (cs := [Value.map (some c), Value.map (some p)]) agSide rfl (cells_all b0), a, reads_load scS (cell_cells0 (kH.at hx (at_lt hx)) rfl), b, reads_load scS (cell_cells0 (kH.at hy (at_lt hy)) rfl),
    (move_spec (hs.upd (kH.upd fun _ => False) (fun h => h) (fun h => h)) hF hne hab hla hlb).mono ?_⟩
  rintro v h4 ⟨s4, u4, rfl⟩
  exact ⟨rfl, s4, (kH.upd _).trans u4, rfl⟩
theorem pred_rename (q : Nat) (s : Str) : PredC 115 (Array.mk [.pointer (some ⟨q, 0, none⟩)]) (fun w => decide (w.n = s)) (boxS q s) := by
  refine ⟨by kernel_rfl, fun h w hx => ?_⟩
  have e : (Array.mk [Value.agg (WtE.enc w).toArray] ++ Array.mk [Value.pointer (some ⟨q, 0, none⟩)]) = [Value.agg (WtE.enc w).toArray, Value.pointer (some ⟨q, 0, none⟩)].toArray := by simp
  rw [e]
  refine HC_of_vc (args := [.agg (WtE.enc w).toArray, .pointer (some ⟨q, 0, none⟩)]) (base := 9) (cuts := []) (bigs := []) hm Tryz.func115 ?_
  rw [vcRename3]
  have kp := keep_push h (.cells (WtE.enc w).toArray 105 (0, 0))
  refine ⟨w.n, reads_load scS (cell_cells0 (push_at h (.cells (WtE.enc w).toArray 105 (0, 0))) (by simp [WtE])), s, reads_load scS (cell_cells0 (kp.at hx (at_lt hx)) rfl), kp, ?_⟩
  rw [beq_dec']

/-- a list whose first part has turned. -/
def upto (f : Wt → Wt) (k : Nat) (ws : List Wt) : List Wt := (ws.take k).map f ++ ws.drop k
theorem upto_len (f : Wt → Wt) (k : Nat) (ws : List Wt) : (upto f k ws).length = ws.length := by simp [upto]; omega
theorem upto_get {f : Wt → Wt} {k : Nat} {ws : List Wt} {w : Wt} (hw : ws[k]? = some w) : (upto f k ws)[k]? = some w := by
  have hk := (List.getElem?_eq_some_iff.1 hw).1
  unfold upto
  rw [List.getElem?_append_right (by simp; omega), List.length_map, List.length_take]
  simp
  rw [show k + (k - min k ws.length) = k by omega]; exact hw
theorem upto_succ {f : Wt → Wt} {k : Nat} {ws : List Wt} {w : Wt} (hw : ws[k]? = some w) : upto f (k + 1) ws = (upto f k ws).set k (f w) := by
  obtain ⟨hk, he⟩ := List.getElem?_eq_some_iff.1 hw
  have hl : ((ws.take k).map f).length = k := by simp; omega
  unfold upto
  rw [List.take_succ_eq_append_getElem hk, he, List.map_append, List.set_append_right _ _ (by omega), hl, Nat.sub_self]
  have hd : ws.drop k = w :: ws.drop (k + 1) := by rw [List.drop_eq_getElem_cons hk, he]
  rw [hd]
  simp only [List.map_cons, List.map_nil, List.append_assoc, List.singleton_append, List.set_cons_zero]
theorem set_wt (R : List Wt) (rest : List Value) (k : Nat) (w : Wt) (t : Str) (hw : R[k]? = some w) : (R.flatMap WtE.enc ++ rest).set (k * 514) (.string t) = (R.set k { w with n := t }).flatMap WtE.enc ++ rest := by
  obtain ⟨hk, he⟩ := List.getElem?_eq_some_iff.1 hw
  have h1 : R = R.take k ++ R[k] :: R.drop (k + 1) := by simp
  have h2 : R.set k { w with n := t } = R.take k ++ { w with n := t } :: R.drop (k + 1) := by rw [List.set_eq_take_append_cons_drop, if_pos hk]
  have hl : ((R.take k).flatMap WtE.enc).length = k * 514 := by rw [flat_len, List.length_take]; show min k R.length * 514 = _; congr 1; omega
  have e0 : R.flatMap WtE.enc = (R.take k).flatMap WtE.enc ++ (WtE.enc w ++ (R.drop (k + 1)).flatMap WtE.enc) := by
    have := congrArg (List.flatMap WtE.enc) h1
    rw [List.flatMap_append, List.flatMap_cons, he] at this
    exact this
  rw [e0, h2, List.append_assoc, List.set_append_right _ _ (by omega), hl, Nat.sub_self, List.flatMap_append, List.flatMap_cons, List.append_assoc, List.append_assoc]
  rfl

set_option maxHeartbeats 1000000 in
theorem rename_spec {h : Heap} {d : Nat} {x : D} {O : Nat → Prop} {s t : Str} (hd : DiskAt h d x O) (hwn : x.waits.length ≤ 1073741824) :
    HC Tryz.prog 72 #[.pointer (some ⟨d, 0, none⟩), .string s, .string t] h
      fun v h' => ∃ O', DiskAt h' d (rename x s t).2 O' ∧ (∀ q, O' q → O q ∨ h.size ≤ q) ∧ Upd O h h' ∧ v = .int .i64 (rename x s t).1 := by
  refine HC_of_vc (args := [.pointer (some ⟨d, 0, none⟩), .string s, .string t]) (base := 77) (cuts := [3]) (bigs := []) hm Tryz.func72 ?_
  rw [vcRenameD]
  have x0 : boxS h.size s ((Array.push h (Obj.cells (Array.mk [Value.string s]) 9)).push (Obj.cells (Array.mk [Value.string t]) 9)) := push2_0 _ _ _
  have y0 : boxS (h.size + 1) t ((Array.push h (Obj.cells (Array.mk [Value.string s]) 9)).push (Obj.cells (Array.mk [Value.string t]) 9)) := push2_1 _ _ _
  have k0 : Keep h.size h ((Array.push h (Obj.cells (Array.mk [Value.string s]) 9)).push (Obj.cells (Array.mk [Value.string t]) 9)) := (keep_push h _).trans (Keep.push _ _ _ (by simp))
  generalize ((Array.push h (Obj.cells (Array.mk [Value.string s]) 9)).push (Obj.cells (Array.mk [Value.string t]) 9)) = H at k0 x0 y0
  simp only [Array.size_push]
  have hO := hd.1
  have zH := k0.size
  have hdH := hd.keep k0
  have badE : ∀ {e : Int}, (may x s).1 = e → e ≠ 0 → rename x s t = may x s := fun {e} he h0 => by
    unfold rename
    cases hm0 : may x s with
    | mk e' d1 =>
      rw [hm0] at he
      simp only at he ⊢
      rw [if_neg (fun h => h0 (by rw [← he]; exact h.1))]
  refine ⟨fun _ h' => h' = H ∧ (x.down = true ∨ s ≠ t ∨ has x s = false), ?_, ?_⟩
  · refine (ready_spec hdH).mono ?_
    rintro v h1 ⟨rfl, rfl⟩
    refine ⟨_, rfl, s, fun _ => reads_load scS (cell_cells0 x0 rfl), t, fun _ => reads_load scS (cell_cells0 y0 rfl), s, fun _ => reads_load scS (cell_cells0 x0 rfl), br_intro (fun e => ?_) (fun e => ⟨rfl, ?_⟩)⟩
    · have hdn : x.down = false := by cases hdn : x.down <;> simp [hdn] at e ⊢
      have hst : s = t := by
        rw [hdn] at e
        have e : (s.toList == t.toList) = true := by simpa using e
        exact eq_beq.1 e
      refine (has_spec hdH s).mono ?_
      rintro v h8 ⟨rfl, rfl⟩
      refine ⟨_, rfl, br_intro (fun hh => ?_) (fun hh => ⟨rfl, .inr (.inr hh)⟩)⟩
      refine ⟨s, reads_load scS (cell_cells0 x0 rfl), does_spec (by kernel_rfl) hdH hwn (fun h' O' e he h0 hd' sub u => ?_) fun h1 c1 p1 c2 p2 A m c hm1 hp hb u1 => (ren1_spec h1 c1 p1).mono ?_⟩
      · refine ⟨_, rfl, O', ?_, fun q h => (sub q h).imp id fun h => by omega, (k0.upd O).trans u, ?_⟩
        · rw [badE he h0]; exact hd'
        · rw [badE he h0, he]
      · rintro v h2 ⟨k2, rfl⟩
        have hr : rename x s t = (0, act x) := by unfold rename; rw [hm1]; simp only; rw [if_neg (fun h => h.2 hst)]
        have hO2 : ∀ b, O b → b < h2.size := fun b h0 => Nat.lt_of_lt_of_le (Nat.lt_of_lt_of_le (hdH.1 b h0) u1.size) k2.size
        rw [hr]
        exact ⟨rfl, _, rfl, O, (hp.upd (k2.upd fun _ => False) fun _ _ h => h).at hb hO2, fun q h => .inl h, (k0.upd O).trans (u1.trans (k2.upd O)), rfl⟩
    · cases hdn : x.down with
      | true => exact .inl rfl
      | false =>
        rw [hdn] at e
        have e : (s.toList == t.toList) = false := by simpa using e
        exact .inr (.inl fun h => by rw [eq_beq.2 h] at e; cases e)
  rintro _ h15 ⟨rfl, hcond⟩
  refine ⟨s, reads_load scS (cell_cells0 x0 rfl), does_spec (by kernel_rfl) hdH hwn (fun h' O' e he h0 hd' sub u => ?_) fun h1 c1 p1 c2 p2 A m c hm1 hp hb u1 => ?_⟩
  · refine ⟨_, rfl, br_intro (fun h1 => absurd (by simpa using h1) h0) fun _ => ⟨O', ?_, fun q h => (sub q h).imp id fun h => by omega, (k0.upd O).trans u, ?_⟩⟩
    · rw [badE he h0]; exact hd'
    · rw [badE he h0, he]
  obtain ⟨hdn, l, hg⟩ := may_ok hm1
  have hst : s ≠ t := by
    rcases hcond with h | h | h
    · rw [hdn] at h; cases h
    · exact h
    · simp [has, hdn, hg] at h
  have hr : rename x s t = (0, { act x with now := moved s t x.now, safe := moved s t x.safe, waits := (drop x.waits t 0).map (turnW s t) }) := by
    unfold rename; rw [hm1]; simp only; rw [if_pos ⟨trivial, hst⟩]; rfl
  have e : (Array.mk [Value.agg (Array.mk [.map (some c1), .map (some p1)])] ++ Array.mk [Value.pointer (some ⟨h.size, 0, none⟩), Value.pointer (some ⟨h.size + 1, 0, none⟩)]) = #[Value.agg #[.map (some c1), .map (some p1)], Value.pointer (some ⟨h.size, 0, none⟩), Value.pointer (some ⟨h.size + 1, 0, none⟩)] := by simp
  rw [e]
  have nd := hp.nd
  simp at nd
  have hlt : ∀ b, blks d c1 p1 c2 p2 A b → b < h.size := fun b h0 => hO b (hb b h0)
  have x1 : boxS h.size s h1 := u1.at x0 fun h0 => by have := hO _ h0; omega
  have y1 : boxS (h.size + 1) t h1 := u1.at y0 fun h0 => by have := hO _ h0; omega
  have l1 := len_now hp.ok s
  have l2 := len_now hp.ok t
  have l3 := hp.ok.fewer s
  have l4 := hp.ok.fewer t
  obtain ⟨⟨t1, t2, t3, t4⟩, t5, t6, t7, t8⟩ := two_ne hp
  refine (ren2_spec hp.now hp.ok.now (by omega) hst (by omega) (by omega) x1 y1).mono ?_
  rintro v h2 ⟨s2, u2, rfl⟩
  have b2 := u2.at hp.box t1
  have x2 := u2.at x1 (fun h0 => by have := hlt _ (two_blks1 _ h0); omega)
  have y2 := u2.at y1 (fun h0 => by have := hlt _ (two_blks1 _ h0); omega)
  have f2 : SideAt h2 c2 p2 x.safe := hp.safe.upd u2 t2 t3
  have w2 := hp.waits.upd u2 t4
  have nw := fun q hq => hp.ne_waits (b := q) hq
  have nm := hp.ne_map
  refine ⟨rfl, _, rfl, br_intro (fun _ => ?_) (fun e => by cases e)⟩
  refine ⟨_, rfl, A, m, c, reads_load scWs (cell_cells b2 (by simp [diskC])), (delF_spec (X := boxS (h.size + 1) t) (pred_rename (h.size + 1) t) (fun a b ha k => k.at ha (at_lt ha))
    (fun a b ha u => u.at ha fun hq => by have := hlt (h.size + 1) (.inr (.inr (.inr (.inr (.inr hq))))); omega) w2 y2 (by have := hp.waits.1; have : x.waits.length = m := this; omega)).mono ?_⟩
  rintro v h25 ⟨o25, u25, rfl⟩
  have b25 := u25.at b2 fun h0 => (nw _ h0).1 rfl
  have x25 := u25.at x2 fun hq => by have := hlt h.size (.inr (.inr (.inr (.inr (.inr hq))))); omega
  have y25 := u25.at y2 fun hq => by have := hlt (h.size + 1) (.inr (.inr (.inr (.inr (.inr hq))))); omega
  generalize hws : (x.waits.filter fun w => !decide (w.n = t)) = ws at o25
  have hws2 : (List.filter (fun w => !decide (w.n = t)) (act x).waits) = ws := hws
  rw [hws2] at o25
  rw [hws2]
  have hdw : drop x.waits t 0 = ws := by rw [drop0]; exact hws
  have hlw : ws.length ≤ 1073741824 := by
    rw [← hdw]; exact Nat.le_trans (List.length_filter_le _ _) hwn
  refine ⟨_, _, _, rfl, _, rfl, svc_store_box szWs b25 (by simp [diskC]) rfl (one_slice _ _ _) fun h31 s31 b31 u31 => ?_⟩
  have nd31 : ∀ q, q ≠ d → ¬ q = d := fun q h => h
  have x31 := u31.at x25 (fun e => by have := hlt d (.inl rfl); omega)
  have y31 := u31.at y25 (fun e => by have := hlt d (.inl rfl); omega)
  have o31 := o25.upd u31 fun q hq => (nw _ hq).1
  refine ⟨_, rfl, A, ws.length, c, reads_load scWs (cell_cells b31 (by simp [diskC])), ?_⟩
  refine ⟨fun n38 h39 => ∃ k : Nat, n38 = k ∧ k ≤ ws.length ∧ Own WtE 105 0 h39 A ws.length c (upto (turnW s t) k ws) ∧ Upd (blk A) h31 h39, fun n38 _ => ws.length - n38.toNat,
    ⟨0, rfl, Nat.zero_le _, by simpa [upto] using o31, Upd.refl _ _⟩, ?_⟩
  rintro n38 h39 ⟨k, rfl, hk, o39, u39⟩
  have b39 := u39.at b31 fun h0 => (nw _ h0).1 rfl
  have x39 := u39.at x31 fun hq => by have := hlt h.size (.inr (.inr (.inr (.inr (.inr hq))))); omega
  have y39 := u39.at y31 fun hq => by have := hlt (h.size + 1) (.inr (.inr (.inr (.inr (.inr hq))))); omega
  refine br_intro (fun hlt2 => ?_) (fun hge => ?_)
  · have hlt2 : k < ws.length := by have : (k : Int) < ws.length := by simpa using hlt2
                                    omega
    have hw : ws[k]? = some ws[k] := List.getElem?_eq_getElem hlt2
    generalize ws[k] = w at hw
    have hR := upto_get (f := turnW s t) hw
    have hwk : IntKind.i64.wrap ((k : Int) + 1) = ((k + 1 : Nat) : Int) := by rw [wrap_i64 (by omega) (by omega)]; rfl
    obtain ⟨bb, cells, rfl, _, hbb, hcs, rest, hrest⟩ : ∃ bb cells, A = some ⟨bb, 0, none⟩ ∧ 0 ≤ bb ∧ h39[bb]? = some (.cells cells 105 (0, 0)) ∧ cells.size = c * WtE.sz ∧ ∃ rest, cells.toList = (upto (turnW s t) k ws).flatMap WtE.enc ++ rest := by
      rcases o39.2.2 with ⟨_, e⟩ | h0
      · have := o39.2.1; omega
      · exact h0
    have hcell : cells[k * 514]? = some (.string w.n) := by
      have this := flat_get (E := WtE) (upto (turnW s t) k ws) (j := 0) (v := .string w.n) hR (by simp [WtE])
      have ek : k * WtE.sz + 0 = k * 514 := Nat.add_zero _
      rw [ek] at this
      rw [← Array.getElem?_toList, hrest, List.getElem?_append_left (List.getElem?_eq_some_iff.1 this).1]
      exact this
    have hlc : k * 514 < cells.size := (Array.getElem?_eq_some_iff.1 hcell).1
    refine ⟨_, rfl, some ⟨bb, 0, none⟩, ws.length, c, reads_load scWs (cell_cells b39 (by simp [diskC])), ⟨bb, 0, none⟩, ⟨rfl, by omega, by omega⟩, w.n, ?_, s, reads_load scS (cell_cells0 x39 rfl), br_intro (fun he => ?_) (fun he => ?_)⟩
    · rw [Int.toNat_natCast]; exact reads_load scS (cell_cells hbb hcell)
    · have he : w.n = s := eq_beq.1 he
      refine ⟨_, rfl, some ⟨bb, 0, none⟩, ws.length, c, reads_load scWs (cell_cells b39 (by simp [diskC])), t, reads_load scS (cell_cells0 y39 rfl), ⟨bb, 0, none⟩, ⟨rfl, by omega, by omega⟩, ?_⟩
      rw [Int.toNat_natCast]
      refine svc_store_box (by kernel_rfl) hbb hlc rfl (one_string _) fun h54 s54 b54 u54 => ?_
      rw [hwk]
      have ht : turnW s t w = { w with n := t } := by unfold turnW; rw [if_pos he]
      have hs2 : cells.toList.set (k * 514) (.string t) = (upto (turnW s t) (k + 1) ws).flatMap WtE.enc ++ rest := by
        rw [hrest, set_wt _ _ _ _ _ hR, upto_succ hw, ht]
      have b54' : h54[bb]? = some (.cells ((upto (turnW s t) (k + 1) ws).flatMap WtE.enc ++ rest).toArray 105 (0, 0)) := by rw [← hs2]; exact b54
      refine ⟨⟨k + 1, rfl, hlt2, ⟨upto_len _ _ _, o39.2.1, .inr ⟨bb, _, rfl, Nat.zero_le _, b54', ?_, rest, by simp⟩⟩, u39.trans (u54.mono fun q e => ⟨_, rfl, e.symm⟩)⟩, by dsimp only; omega⟩
      have := congrArg List.length hs2
      rw [List.length_set, Array.length_toList] at this
      simp only [List.size_toArray]; omega
    · have he : w.n ≠ s := fun h => by rw [eq_beq.2 h] at he; cases he
      rw [hwk]
      have ht : turnW s t w = w := by unfold turnW; rw [if_neg he]
      refine ⟨⟨k + 1, rfl, hlt2, ?_, u39⟩, by dsimp only; omega⟩
      have : upto (turnW s t) (k + 1) ws = upto (turnW s t) k ws := by
        rw [upto_succ hw, ht]
        apply List.ext_getElem?
        intro j
        rw [List.getElem?_set]
        split
        · rename_i e; subst e; split
          · exact hR.symm
          · rename_i h0; exact absurd (List.getElem?_eq_some_iff.1 hR).1 h0
        · rfl
      rw [this]; exact o39
  · have hk' : k = ws.length := by have : ¬ (k : Int) < ws.length := by simpa using hge
                                   omega
    have hall : upto (turnW s t) k ws = ws.map (turnW s t) := by unfold upto; rw [hk', List.take_length, List.drop_length, List.append_nil]
    rw [hall] at o39
    have ub : Upd (fun q => q = d ∨ blk A q) h2 h39 := (u25.mono fun q h => .inr h).trans ((u31.mono fun q e => .inl e).trans (u39.mono fun q h => .inr h))
    have f39 : SideAt h39 c2 p2 x.safe := f2.upd ub (fun h => h.elim (fun e => nm.2.2.1 e.symm) fun h => (nw _ h).2.2.2.1 rfl) (fun h => h.elim (fun e => nm.2.2.2 e.symm) fun h => (nw _ h).2.2.2.2 rfl)
    have n39 : SideAt h39 c1 p1 (moved s t x.now) := s2.upd ub (fun h => h.elim (fun e => nm.1 e.symm) fun h => (nw _ h).2.1 rfl) (fun h => h.elim (fun e => nm.2.1 e.symm) fun h => (nw _ h).2.2.1 rfl)
    have b39' : h39[d]? = some (.cells (diskC c1 p1 c2 p2 A ws.length c (act x)).toArray 98 (0, 0)) := by rw [b39]; simp [diskC]
    refine ⟨_, rfl, _, _, box_side2 b39', s, reads_load scS (cell_cells0 x39 rfl), t, reads_load scS (cell_cells0 y39 rfl), (move_spec f39 hp.ok.safe (by omega) hst (by have : (pgs x.safe s).length ≤ (pgs x.now s).length := l3; have : (pgs x.now s).length ≤ 4096 := l1; omega) (by have : (pgs x.safe t).length ≤ (pgs x.now t).length := l4; have : (pgs x.now t).length ≤ 4096 := l2; omega)).mono ?_⟩
    rintro v h61 ⟨s61, u61, rfl⟩
    have uall : Upd O h h61 := (k0.upd O).trans (u1.trans (((u2.mono two_blks1).trans ((ub.mono fun q h => h.elim (fun e => Or.inl e) fun h => .inr (.inr (.inr (.inr (.inr h))))).trans (u61.mono two_blks2))).mono hb))
    rw [hr]
    refine ⟨rfl, O, ⟨fun q h0 => Nat.lt_of_lt_of_le (hO q h0) uall.size, c1, p1, c2, p2, A, ws.length, c, ⟨?_, n39.upd u61 t6 t7, s61, ?_, hp.nd, ok_rename (ok_act (by exact hd.ok)) hst⟩, hb⟩, fun q h => .inl h, uall, rfl⟩
    · rw [u61.at b39' t5]; simp [diskC, act]
    · show Own _ _ _ _ _ _ _ ((drop x.waits t 0).map (turnW s t))
      rw [hdw]
      exact o39.upd u61 t8
end Go.Proofs.YthkhaobmhheoaaaGreat
end

section
set_option linter.unusedVariables false
set_option linter.unusedSimpArgs false
set_option maxRecDepth 100000
namespace Go.Proofs.YthkhaobmhheoaaaGreat
open Go Go.Vc Go.Proofs Go.Dk

/-- a disk in blocks that are newer than h0, which stands; blocks of F are none of its. -/
def StF (h0 : Heap) (F : Nat → Prop) (d : Nat) (x : D) (h : Heap) : Prop :=
  ∃ O, DiskAt h d x O ∧ (∀ q, O q → h0.size ≤ q ∧ ¬ F q) ∧ Keep h0.size h0 h ∧ ∀ q, F q → h0.size ≤ q ∧ q < h.size
section
variable {h0 h h' : Heap} {F G : Nat → Prop} {d : Nat} {x x' : D}
theorem St.frame (hs : St h0 d x h) : StF h0 (fun _ => False) d x h := let ⟨O, a, b, c⟩ := hs; ⟨O, a, fun q hq => ⟨b q hq, id⟩, c, fun _ h => h.elim⟩
theorem StF.base (hs : StF h0 F d x h) : Keep h0.size h0 h := let ⟨_, _, _, k, _⟩ := hs; k
theorem StF.lt (hs : StF h0 F d x h) {q : Nat} (hq : F q) : h0.size ≤ q ∧ q < h.size := let ⟨_, _, _, _, f⟩ := hs; f q hq
theorem StF.ok (hs : StF h0 F d x h) : Ok x := let ⟨_, a, _⟩ := hs; a.ok
theorem StF.box (hs : StF h0 F d x h) : h0.size ≤ d ∧ ¬ F d ∧ d < h.size := let ⟨_, a, b, _⟩ := hs; ⟨(b d a.box).1, (b d a.box).2, a.1 d a.box⟩
/-- other things have turned, or are new. -/
theorem StF.own (hs : StF h0 F d x h) (u : Upd F h h') (hg : ∀ q, G q → (F q ∨ h.size ≤ q) ∧ q < h'.size) : StF h0 G d x h' := by
  obtain ⟨O, a, b, k, f⟩ := hs
  refine ⟨O, a.upd u fun q hq => (b q hq).2, fun q hq => ⟨(b q hq).1, fun hG => ?_⟩, k.trans (u.keep k.size fun q hq => (f q hq).1), fun q hq => ?_⟩
  · rcases (hg q hG).1 with h1 | h1
    · exact (b q hq).2 h1
    · have := a.1 q hq; omega
  · obtain ⟨h1, h2⟩ := hg q hq
    exact ⟨h1.elim (fun h => (f q h).1) fun h => Nat.le_trans k.size h, h2⟩
theorem StF.keep (hs : StF h0 F d x h) (k : Keep h.size h h') : StF h0 F d x h' := hs.own (k.upd F) fun q hq => ⟨.inl hq, Nat.lt_of_lt_of_le (hs.lt hq).2 k.size⟩
theorem StF.step {O : Nat → Prop} (h1 : DiskAt h d x O) (h2 : ∀ q, O q → h0.size ≤ q ∧ ¬ F q) (h3 : Keep h0.size h0 h) (h4 : ∀ q, F q → h0.size ≤ q ∧ q < h.size)
    (r : ∃ O', DiskAt h' d x' O' ∧ (∀ q, O' q → O q ∨ h.size ≤ q) ∧ Upd O h h') : StF h0 F d x' h' ∧ Upd (fun q => ¬ F q) h h' := by
  obtain ⟨O', a, b, c⟩ := r
  refine ⟨⟨O', a, fun q hq => ?_, h3.trans (c.keep h3.size fun q hq => (h2 q hq).1), fun q hq => ⟨(h4 q hq).1, Nat.lt_of_lt_of_le (h4 q hq).2 c.size⟩⟩, c.mono fun q hq => (h2 q hq).2⟩
  rcases b q hq with h5 | h5
  · exact h2 q h5
  · exact ⟨Nat.le_trans h3.size h5, fun hF => by have := (h4 q hF).2; omega⟩
/-- a write of a slice none of whose blocks is the disk's. -/
theorem StF.write (hs : StF h0 F d x h) {s b : Str} {i : Int} {A : Option Addr} {n c : Nat} (hsl : Sl ByteE h A n (bytesL b)) (hA : n ≠ 0 → ∀ q, blk A q → q < h0.size ∨ F q) (hw : x.waits.length < 1073741824) :
    HC Tryz.prog 17 #[.pointer (some ⟨d, 0, none⟩), .string s, .int .i64 i, .slice A n c] h fun v h' => (StF h0 F d (Dk.write x s i b).2 h' ∧ Upd (fun q => ¬ F q) h h') ∧ v = .int .i64 (Dk.write x s i b).1 := by
  obtain ⟨O, h1, h2, h3, h4⟩ := hs
  exact (write_spec0 h1 hsl (fun hn q hq hO => by
    rcases hA hn q hq with h5 | h5
    · have := (h2 q hO).1; omega
    · exact (h2 q hO).2 h5) hw).mono fun v h' ⟨O', a, b, c, e⟩ => ⟨StF.step h1 h2 h3 h4 ⟨O', a, b, c⟩, e⟩
/-- blocks of what stood ahead. -/
theorem blk_in {α : Type} {E : Enc α} (hz : 0 < E.sz) {A : Option Addr} {n : Nat} {xs : List α} (hsl : Sl E h0 A n xs) (hn : n ≠ 0) : ∀ q, blk A q → q < h0.size := fun q hq => by
  have hlen := hsl.1
  obtain ⟨p, hp, hc⟩ := hsl.get (i := 0) (List.getElem?_eq_getElem (by omega))
  obtain ⟨p', e, hq'⟩ := hq
  rw [hp] at e
  cases e
  have hj : 0 < (E.enc xs[0]).length := by rw [E.len]; exact hz
  have h4 := cell_lt (hc 0 _ (List.getElem?_eq_getElem hj))
  rw [Addr.add_block, hq'] at h4
  exact h4
theorem StF.writeIn (hs : StF h0 F d x h) {s b : Str} {i : Int} {A : Option Addr} {n c : Nat} (hsl : Sl ByteE h0 A n (bytesL b)) (hw : x.waits.length < 1073741824) :
    HC Tryz.prog 17 #[.pointer (some ⟨d, 0, none⟩), .string s, .int .i64 i, .slice A n c] h fun v h' => (StF h0 F d (Dk.write x s i b).2 h' ∧ Upd (fun q => ¬ F q) h h') ∧ v = .int .i64 (Dk.write x s i b).1 :=
  hs.write (hsl.keep hs.base) (fun hn q hq => .inl (blk_in (by decide) hsl hn q hq)) hw
theorem StF.off (hs : StF h0 F d x h) {keep : Int} (hk : 0 ≤ keep ∧ keep < 18446744073709551616) (hw : x.waits.length ≤ 1073741824) :
    HC Tryz.prog 31 #[.pointer (some ⟨d, 0, none⟩), .int .u64 keep] h fun v h' => (StF h0 F d (Dk.off keep x) h' ∧ Upd (fun q => ¬ F q) h h') ∧ v = .tuple #[] := by
  obtain ⟨O, h1, h2, h3, h4⟩ := hs
  exact (off_spec h1 hk hw).mono fun v h' ⟨O', a, b, c, e⟩ => ⟨StF.step h1 h2 h3 h4 ⟨O', a, b, c⟩, e⟩
theorem StF.on (hs : StF h0 F d x h) : HC Tryz.prog 29 #[.pointer (some ⟨d, 0, none⟩)] h fun v h' => (StF h0 F d (Dk.on x) h' ∧ Upd (fun q => ¬ F q) h h') ∧ v = .tuple #[] := by
  obtain ⟨O, h1, h2, h3, h4⟩ := hs
  exact (on_spec h1).mono fun v h' ⟨a, c, e⟩ => ⟨StF.step h1 h2 h3 h4 ⟨O, a, fun q h => .inl h, c⟩, e⟩
theorem StF.arm (hs : StF h0 F d x h) {n keep : Int} (hn : n ≤ 9223372036854775807) (hk : 0 ≤ keep ∧ keep < 18446744073709551616) :
    HC Tryz.prog 25 #[.pointer (some ⟨d, 0, none⟩), .int .i64 n, .int .u64 keep] h fun v h' => (StF h0 F d (Dk.arm x n keep) h' ∧ Upd (fun q => ¬ F q) h h') ∧ v = .tuple #[] := by
  obtain ⟨O, h1, h2, h3, h4⟩ := hs
  exact (arm_spec h1 hn hk).mono fun v h' ⟨a, c, e⟩ => ⟨StF.step h1 h2 h3 h4 ⟨O, a, fun q h => .inl h, c⟩, e⟩
theorem StF.sync (hs : StF h0 F d x h) {s : Str} (hw : x.waits.length ≤ 1073741824) :
    HC Tryz.prog 71 #[.pointer (some ⟨d, 0, none⟩), .string s] h fun v h' => (StF h0 F d (Dk.sync x s).2 h' ∧ Upd (fun q => ¬ F q) h h') ∧ v = .int .i64 (Dk.sync x s).1 := by
  obtain ⟨O, h1, h2, h3, h4⟩ := hs
  exact (sync_spec h1 hw).mono fun v h' ⟨O', a, b, c, e⟩ => ⟨StF.step h1 h2 h3 h4 ⟨O', a, b, c⟩, e⟩
theorem StF.remove (hs : StF h0 F d x h) {s : Str} (hw : x.waits.length ≤ 1073741824) :
    HC Tryz.prog 58 #[.pointer (some ⟨d, 0, none⟩), .string s] h fun v h' => (StF h0 F d (Dk.remove x s).2 h' ∧ Upd (fun q => ¬ F q) h h') ∧ v = .int .i64 (Dk.remove x s).1 := by
  obtain ⟨O, h1, h2, h3, h4⟩ := hs
  exact (remove_spec h1 hw).mono fun v h' ⟨O', a, b, c, e⟩ => ⟨StF.step h1 h2 h3 h4 ⟨O', a, b, c⟩, e⟩
theorem StF.rename (hs : StF h0 F d x h) {s t : Str} (hw : x.waits.length ≤ 1073741824) :
    HC Tryz.prog 72 #[.pointer (some ⟨d, 0, none⟩), .string s, .string t] h fun v h' => (StF h0 F d (Dk.rename x s t).2 h' ∧ Upd (fun q => ¬ F q) h h') ∧ v = .int .i64 (Dk.rename x s t).1 := by
  obtain ⟨O, h1, h2, h3, h4⟩ := hs
  exact (rename_spec h1 hw).mono fun v h' ⟨O', a, b, c, e⟩ => ⟨StF.step h1 h2 h3 h4 ⟨O', a, b, c⟩, e⟩
theorem StF.count (hs : StF h0 F d x h) (s : Str) : HC Tryz.prog 74 #[.pointer (some ⟨d, 0, none⟩), .string s] h fun v h' => h' = h ∧ v = .int .i64 (Dk.count x s) := by
  obtain ⟨O, h1, _⟩ := hs; exact count_spec h1 s
theorem StF.has (hs : StF h0 F d x h) (s : Str) : HC Tryz.prog 56 #[.pointer (some ⟨d, 0, none⟩), .string s] h fun v h' => h' = h ∧ v = .bool (Dk.has x s) := by
  obtain ⟨O, h1, _⟩ := hs; exact has_spec h1 s
theorem StF.free (hs : StF h0 F d x h) : HC Tryz.prog 24 #[.pointer (some ⟨d, 0, none⟩)] h fun v h' => Keep h.size h h' ∧ v = .int .i64 (Dk.free x) := by
  obtain ⟨O, h1, _⟩ := hs
  exact free_spec h1
theorem StF.read (hs : StF h0 F d x h) (s : Str) (i : Int) : HC Tryz.prog 94 #[.pointer (some ⟨d, 0, none⟩), .string s, .int .i64 i] h
    fun v h' => Keep h.size h h' ∧ ∃ b m, v = .tuple #[.slice (if m = 0 then none else some ⟨b, 0, none⟩) m m, .int .i64 (Dk.read x s i).2] ∧ m = (Dk.read x s i).1.size ∧ h.size ≤ b ∧
        (m ≠ 0 → h'[b]? = some (.cells (((bytesL (Dk.read x s i).1).map fun b => Value.int .u8 (b.toNat : Nat))).toArray 103 (0, 0))) := by
  obtain ⟨O, h1, _⟩ := hs
  exact read_spec h1 s i
end
end Go.Proofs.YthkhaobmhheoaaaGreat
end

section
set_option linter.unusedVariables false
set_option linter.unusedSimpArgs false
set_option maxRecDepth 100000
namespace Go.Proofs.YthkhaobmhheoaaaGreat
open Go Go.Vc Go.Proofs Go.Dk

theorem scSs : scT Tryz.prog 25 = true := by kernel_rfl
theorem szSs : szOf Tryz.prog 25 = some 1 := by kernel_rfl
theorem app_ss : App Tryz.prog 25 9 StrE.sz 16 (.string ⟨#[]⟩) := ⟨by kernel_rfl, by kernel_rfl, by kernel_rfl, by kernel_rfl, rfl, by decide, by decide⟩
theorem bs_s (s : Str) : bsCells Tryz.prog 25 1 [(0, .string s)] = some (9, [Value.string s]) :=
  bs_one (v := .string s) app_ss.und app_ss.size app_ss.zero app_ss.zlen (by decide) (by decide) rfl
theorem undSs : Tryz.prog.underlying 25 = some (.slice 9) := by kernel_rfl
/-- noughts, made. -/
theorem svc_noughts {h : Heap} {n : Nat} {K : Value → Heap → Prop} (hn : n ≤ 512) (k : ∀ h', Keep h.size h h' → h'.size = h.size + 1 → Sl ByteE h' (some ⟨h.size, 0, none⟩) n (List.replicate n 0) → K (.slice (some ⟨h.size, 0, none⟩) n n) h') :
    SVC Tryz.prog (Instr.makeSlice 22 (.int .i64 n) (.int .i64 n)) h K :=
  svc_make_bytes undBs (by kernel_rfl) (by kernel_rfl) (by kernel_rfl) (by omega) k
/-- a row of one text. -/
theorem svc_row {h : Heap} {s : Str} {B0 : Nat} {K : Value → Heap → Prop} (hB : B0 ≤ h.size) (k : ∀ h', Keep h.size h h' → h'.size = h.size + 1 → Own StrE 9 B0 h' (some ⟨h.size, 0, none⟩) 1 1 [s] → K (.slice (some ⟨h.size, 0, none⟩) 1 1) h') :
    SVC Tryz.prog (Instr.buildSlice 25 1 (Array.mk [(0, .string s)])) h K :=
  svc_buildSlice (bs_s s) (k _ (keep_push _ _) (by simp) ⟨rfl, Nat.le_refl _, .inr ⟨h.size, _, rfl, hB, push_at _ _, rfl, [], rfl⟩⟩)
theorem page_of (n : Nat) : (⟨(List.replicate n (0 : UInt8)).toArray⟩ : Str).size = n := by show (List.replicate n (0 : UInt8)).toArray.size = n; simp
theorem zp_of : (⟨(List.replicate 512 (0 : UInt8)).toArray⟩ : Str) = zp := by rw [List.toArray_replicate]; rfl
theorem pad_of (b : Str) : b ++ (⟨(List.replicate (512 - b.size) (0 : UInt8)).toArray⟩ : Str) = pad b := by
  apply ByteArray.ext
  rw [ByteArray.data_append, List.toArray_replicate]
  rfl

theorem reads_i {h : Heap} {A : Option Addr} {n : Nat} {ns : List Int} {k : Nat} {s : Int} (hs : Sl (IntE .i64) h A n ns) (hk : ns[k]? = some s) : ∃ p, A = some p ∧ Reads Tryz.prog (Instr.loadAt 3 (.pointer (some (p.add (k * 1))))) h (.int .i64 s) := by
  obtain ⟨p, hA, hp⟩ := hs.get hk
  exact ⟨p, hA, reads_load scI (hp 0 (.int .i64 s) rfl)⟩
theorem reads_b {h : Heap} {A : Option Addr} {n : Nat} {ns : List Bool} {k : Nat} {s : Bool} (hs : Sl BoolE h A n ns) (hk : ns[k]? = some s) : ∃ p, A = some p ∧ Reads Tryz.prog (Instr.loadAt 4 (.pointer (some (p.add (k * 1))))) h (.bool s) := by
  obtain ⟨p, hA, hp⟩ := hs.get hk
  exact ⟨p, hA, reads_load scB (hp 0 (.bool s) rfl)⟩
theorem reads_s {h : Heap} {A : Option Addr} {n : Nat} {ns : List Str} {k : Nat} {s : Str} (hs : Sl StrE h A n ns) (hk : ns[k]? = some s) : ∃ p, A = some p ∧ Reads Tryz.prog (Instr.loadAt 9 (.pointer (some (p.add (k * 1))))) h (.string s) := by
  obtain ⟨p, hA, hp⟩ := hs.get hk
  exact ⟨p, hA, reads_load scS (hp 0 (.string s) rfl)⟩
end Go.Proofs.YthkhaobmhheoaaaGreat
end
