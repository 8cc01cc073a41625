/-
  The disk on a heap; what its small calls do. Conditions: none.
-/
import Derived.Test.YtembbemljejjbaaVcQ
import Derived.Test.YtembbemljejjbaaDkA
import Derived.Test.YtembbemljejjbaaG1
set_option linter.unusedVariables false
set_option linter.unusedSimpArgs false
set_option maxRecDepth 100000
namespace Go.Proofs.Ytembbemljejjbaa
open Go Go.Vc Go.Proofs Go.Dk

theorem hm : Try.prog.follows .mixedOrders = true := by kernel_rfl
theorem undS : Try.prog.underlying 9 = some .string := by kernel_rfl
theorem undI : Try.prog.underlying 3 = some (.int .i64) := by kernel_rfl
theorem undB : Try.prog.underlying 5 = some (.int .u8) := by kernel_rfl
theorem undBs : Try.prog.underlying 22 = some (.slice 5) := by kernel_rfl
theorem undD : Try.prog.underlying 24 = some (.pointer (Try.prog.pointee 24)) := by kernel_rfl
theorem undMc : Try.prog.underlying 84 = some (.map 9 3) := by kernel_rfl
theorem undMp : Try.prog.underlying 85 = some (.map 94 96) := by kernel_rfl
theorem scS : scT Try.prog 9 = true := by kernel_rfl
theorem scI : scT Try.prog 3 = true := by kernel_rfl
theorem scB : scT Try.prog 4 = true := by kernel_rfl
theorem scU : scT Try.prog 34 = true := by kernel_rfl
theorem scMc : scT Try.prog 84 = true := by kernel_rfl
theorem scMp : scT Try.prog 85 = true := by kernel_rfl
theorem scWs : scT Try.prog 89 = true := by kernel_rfl
theorem szI : szOf Try.prog 3 = some 1 := by kernel_rfl
theorem szB : szOf Try.prog 4 = some 1 := by kernel_rfl
theorem szU : szOf Try.prog 34 = some 1 := by kernel_rfl
theorem szWs : szOf Try.prog 89 = some 1 := by kernel_rfl
theorem agSide : agT Try.prog 87 2 = true := by kernel_rfl
theorem agAt : agT Try.prog 94 2 = true := by kernel_rfl
theorem agPage : agT Try.prog 96 512 = true := by kernel_rfl
theorem agWrite : agT Try.prog 98 514 = true := by kernel_rfl
theorem szSide : szOf Try.prog 87 = some 2 := by kernel_rfl
theorem szPage : szOf Try.prog 96 = some 512 := by kernel_rfl
theorem szWrite : szOf Try.prog 98 = some 514 := by kernel_rfl
theorem zI : (Try.prog.info? 3).bind (·.zero) = some (.int .i64 0) := by kernel_rfl

/-- a page's cells. -/
def pgC (s : Str) : List Value := (List.range 512).map fun j => .int .u8 ((s.data.getD j 0).toNat : Nat)
theorem pgC_len (s : Str) : (pgC s).length = 512 := by simp [pgC]
def pv (s : Str) : Value := .agg (pgC s).toArray
theorem zP : (Try.prog.info? 96).bind (·.zero) = some (pv zp) := by kernel_rfl
theorem zcPage : (zc Try.prog 96).size = 512 := by kernel_rfl
theorem zcWrite : (zc Try.prog 98).size = 514 := by kernel_rfl

theorem flatAt : Flat Try.prog 94 #[(Try.prog.fieldsOf 94)[0]!, (Try.prog.fieldsOf 94)[1]!] := ⟨by kernel_rfl, by kernel_rfl, by kernel_rfl⟩
def Mc : Mk Try.prog 84 9 3 Str Int := strMk Try.prog 84 9 3 Int (.int .i64) undMc undS
def Mp : Mk Try.prog 85 94 96 (Str × Int) Str :=
  pairMk Try.prog 85 94 96 Str pv _ _ undMp flatAt (by decide +kernel) (by decide +kernel) (by kernel_rfl) (by kernel_rfl) (by kernel_rfl) (by kernel_rfl)

/-- the i-th page of a file, with noughts where there is none. -/
def pg (F : Fs) (n : Str) (i : Int) : Str := if 0 ≤ i then (pgs F n).getD i.toNat zp else zp
/-- files, told by two maps. -/
structure Like (F : Fs) (mc : List (Str × Int)) (mp : List ((Str × Int) × Str)) : Prop where
  count : ∀ n, mGet mc n = (mGet F n).map fun l => (l.length : Int)
  page : ∀ n i, (mGet mp (n, i)).getD zp = pg F n i
  there : ∀ n i, (mGet mp (n, i)).isSome = true → 0 ≤ i ∧ i < (pgs F n).length
/-- files on a heap. -/
def SideAt (h : Heap) (c p : Nat) (F : Fs) : Prop := ∃ mc mp, MapAt Mc h c mc ∧ MapAt Mp h p mp ∧ Like F mc mp

theorem SideAt.upd {h h' : Heap} {c p : Nat} {F : Fs} {S : Nat → Prop} (hs : SideAt h c p F) (u : Upd S h h') (hc : ¬ S c) (hp : ¬ S p) : SideAt h' c p F := by
  obtain ⟨mc, mp, h1, h2, h3⟩ := hs
  exact ⟨mc, mp, h1.upd u hc, h2.upd u hp, h3⟩
theorem SideAt.lt {h : Heap} {c p : Nat} {F : Fs} (hs : SideAt h c p F) : c < h.size ∧ p < h.size := by
  obtain ⟨mc, mp, h1, h2, h3⟩ := hs
  exact ⟨h1.lt, h2.lt⟩

/-- a write that isn't safe, in cells. -/
def WtE : Enc Wt := ⟨514, fun w => .string w.n :: .int .i64 w.i :: pgC w.p, fun w => by simp [pgC_len], fun w v hv => by
  simp only [List.mem_cons] at hv
  rcases hv with rfl | rfl | hv
  · exact one_string _
  · exact one_int _ _
  · simp only [pgC, List.mem_map] at hv
    obtain ⟨j, _, rfl⟩ := hv
    exact one_int _ _⟩

def diskC (c1 p1 c2 p2 : Nat) (A : Option Addr) (n c : Nat) (x : D) : List Value :=
  [.map (some c1), .map (some p1), .map (some c2), .map (some p2), .slice A n c, .int .i64 x.room, .bool x.down, .int .i64 x.acts, .int .i64 x.fuse, .int .u64 x.keep]
/-- a disk on a heap, by its blocks. -/
structure DiskP (h : Heap) (d c1 p1 c2 p2 : Nat) (A : Option Addr) (n c : Nat) (x : D) : Prop where
  box : h[d]? = some (.cells (diskC c1 p1 c2 p2 A n c x).toArray 91 (0, 0))
  now : SideAt h c1 p1 x.now
  safe : SideAt h c2 p2 x.safe
  waits : Own WtE 98 0 h A n c x.waits
  nd : [c1, p1, c2, p2].Nodup
  ok : Ok x

/-- its blocks. -/
def blks (d c1 p1 c2 p2 : Nat) (A : Option Addr) (b : Nat) : Prop := b = d ∨ b = c1 ∨ b = p1 ∨ b = c2 ∨ b = p2 ∨ blk A b
/-- a disk on a heap, all of whose blocks are of O. -/
def DiskAt (h : Heap) (d : Nat) (x : D) (O : Nat → Prop) : Prop :=
  (∀ b, O b → b < h.size) ∧ ∃ c1 p1 c2 p2 A n c, DiskP h d c1 p1 c2 p2 A n c x ∧ ∀ b, blks d c1 p1 c2 p2 A b → O b

section
variable {h h' : Heap} {d c1 p1 c2 p2 : Nat} {A : Option Addr} {n c : Nat} {x : D} {O : Nat → Prop}

theorem DiskP.ne_map (hd : DiskP h d c1 p1 c2 p2 A n c x) : d ≠ c1 ∧ d ≠ p1 ∧ d ≠ c2 ∧ d ≠ p2 := by
  have e := hd.box
  obtain ⟨_, _, ⟨_, _, b1, _⟩, ⟨_, _, b2, _⟩, _⟩ := hd.now
  obtain ⟨_, _, ⟨_, _, b3, _⟩, ⟨_, _, b4, _⟩, _⟩ := hd.safe
  refine ⟨?_, ?_, ?_, ?_⟩ <;> (intro h0; subst h0; simp_all)
theorem DiskP.ne_waits (hd : DiskP h d c1 p1 c2 p2 A n c x) {b : Nat} (hb : blk A b) : b ≠ d ∧ b ≠ c1 ∧ b ≠ p1 ∧ b ≠ c2 ∧ b ≠ p2 := by
  have e := hd.box
  obtain ⟨_, _, ⟨_, _, b1, _⟩, ⟨_, _, b2, _⟩, _⟩ := hd.now
  obtain ⟨_, _, ⟨_, _, b3, _⟩, ⟨_, _, b4, _⟩, _⟩ := hd.safe
  obtain ⟨q, rfl, rfl⟩ := hb
  rcases hd.waits.2.2 with ⟨h0, _⟩ | ⟨b', cells, h0, _, hb', _⟩
  · cases h0
  · cases h0
    refine ⟨?_, ?_, ?_, ?_, ?_⟩ <;> (intro h0; subst h0; simp_all)
theorem DiskP.lt (hd : DiskP h d c1 p1 c2 p2 A n c x) {b : Nat} (hb : blks d c1 p1 c2 p2 A b) : b < h.size := by
  rcases hb with rfl | rfl | rfl | rfl | rfl | hb
  · exact at_lt hd.box
  · exact hd.now.lt.1
  · exact hd.now.lt.2
  · exact hd.safe.lt.1
  · exact hd.safe.lt.2
  · exact (hd.waits.block b hb).2
theorem DiskP.upd {S : Nat → Prop} (hd : DiskP h d c1 p1 c2 p2 A n c x) (u : Upd S h h') (hs : ∀ b, blks d c1 p1 c2 p2 A b → ¬ S b) : DiskP h' d c1 p1 c2 p2 A n c x :=
  ⟨u.at hd.box (hs d (.inl rfl)), hd.now.upd u (hs _ (.inr (.inl rfl))) (hs _ (.inr (.inr (.inl rfl)))), hd.safe.upd u (hs _ (.inr (.inr (.inr (.inl rfl))))) (hs _ (.inr (.inr (.inr (.inr (.inl rfl)))))),
    hd.waits.upd u (fun b hb => hs b (.inr (.inr (.inr (.inr (.inr hb)))))), hd.nd, hd.ok⟩
theorem DiskAt.upd {S : Nat → Prop} (hd : DiskAt h d x O) (u : Upd S h h') (hs : ∀ b, O b → ¬ S b) : DiskAt h' d x O := by
  obtain ⟨hO, c1, p1, c2, p2, A, n, c, hp, hb⟩ := hd
  exact ⟨fun b h0 => Nat.lt_of_lt_of_le (hO b h0) u.size, c1, p1, c2, p2, A, n, c, hp.upd u fun b h0 => hs b (hb b h0), hb⟩
theorem DiskAt.keep (hd : DiskAt h d x O) (k : Keep h.size h h') : DiskAt h' d x O :=
  hd.upd (k.upd fun _ => False) fun _ _ h => h
theorem DiskAt.lt (hd : DiskAt h d x O) {b : Nat} (hb : O b) : b < h.size := hd.1 b hb
theorem DiskAt.ok (hd : DiskAt h d x O) : Ok x := by obtain ⟨_, _, _, _, _, _, _, _, hp, _⟩ := hd; exact hp.ok
theorem DiskAt.box (hd : DiskAt h d x O) : O d := by obtain ⟨_, _, _, _, _, _, _, _, hp, hb⟩ := hd; exact hb d (.inl rfl)

theorem DiskP.rd (hd : DiskP h d c1 p1 c2 p2 A n c x) {k : Nat} {v : Value} (hk : (diskC c1 p1 c2 p2 A n c x)[k]? = some v) : cell h ((⟨d, 0, none⟩ : Addr).add k) = some v :=
  cell_cells hd.box (by simpa using hk)

/-- the box alone is written. -/
theorem DiskP.store {c' : List Value} {A' : Option Addr} {n' m' : Nat} {y : D} (hd : DiskP h d c1 p1 c2 p2 A n c x) (hb : h'[d]? = some (.cells c'.toArray 91 (0, 0))) (hc : c' = diskC c1 p1 c2 p2 A n c y)
    (u : Upd (fun b => b = d) h h') (e1 : y.now = x.now) (e2 : y.safe = x.safe) (e3 : y.waits = x.waits) (ok : Ok y) : DiskP h' d c1 p1 c2 p2 A n c y := by
  obtain ⟨q1, q2, q3, q4⟩ := hd.ne_map
  refine ⟨by rw [hb, hc], by rw [e1]; exact hd.now.upd u (Ne.symm q1) (Ne.symm q2), by rw [e2]; exact hd.safe.upd u (Ne.symm q3) (Ne.symm q4), by rw [e3]; exact hd.waits.upd u fun b hb => (hd.ne_waits hb).1, hd.nd, ok⟩
end

theorem ready_spec {h : Heap} {d : Nat} {x : D} {O : Nat → Prop} (hd : DiskAt h d x O) :
    HC Try.prog 47 #[.pointer (some ⟨d, 0, none⟩)] h fun v h' => h' = h ∧ v = .int .i64 (if x.down then 8 else 0) := by
  obtain ⟨hO, c1, p1, c2, p2, A, n, c, hp, hb⟩ := hd
  refine HC_of_vc (args := [.pointer (some ⟨d, 0, none⟩)]) (base := 11) (cuts := []) (bigs := []) hm Try.func47 ?_
  rw [vcReady]
  refine ⟨_, reads_eql_nil undD, br_intro (fun e => by cases e) fun _ => ⟨_, rfl, x.down, reads_load scB (hp.rd rfl), ?_⟩⟩
  cases x.down <;> exact ⟨rfl, rfl⟩
theorem ready_nil {h : Heap} : HC Try.prog 47 #[.pointer none] h fun v h' => h' = h ∧ v = .int .i64 2 := by
  refine HC_of_vc (args := [.pointer none]) (base := 11) (cuts := []) (bigs := []) hm Try.func47 ?_
  rw [vcReady0]
  exact ⟨_, reads_eql_nil undD, br_intro (fun _ => ⟨rfl, rfl⟩) fun e => by cases e⟩

theorem act_ok {x : D} (h : Ok x) : Ok (act x) := ⟨h.now, h.safe, h.room, h.tot, h.fewer, h.waits, h.pnow, h.psafe, by show x.fuse - 1 ≤ _; have := h.fuse; omega, h.keep⟩
theorem act_spec {h : Heap} {d : Nat} {x : D} {O : Nat → Prop} (hd : DiskAt h d x O) :
    HC Try.prog 48 #[.pointer (some ⟨d, 0, none⟩)] h fun v h' => DiskAt h' d (act x) O ∧ Upd O h h' ∧ v = .bool (goes x) := by
  obtain ⟨hO, c1, p1, c2, p2, A, n, c, hp, hb⟩ := hd
  have hOd := hb d (.inl rfl)
  refine HC_of_vc (args := [.pointer (some ⟨d, 0, none⟩)]) (base := 27) (cuts := []) (bigs := []) hm Try.func48 ?_
  rw [vcAct]
  refine ⟨_, rfl, _, reads_load scI (hp.rd rfl), _, rfl, svc_store_box szI hp.box (by simp [diskC]) rfl (one_int _ _) fun h4 s4 b4 u4 => ⟨_, rfl, x.fuse, ?_, ?_⟩⟩
  · exact reads_load scI (cell_cells b4 (by simp [diskC]))
  have okA := act_ok hp.ok
  have uO : Upd O h h4 := u4.of_sub fun i _ e => e ▸ hOd
  refine br_intro (fun e => ?_) (fun e => ?_)
  · have e : 0 < x.fuse := by simpa using e
    refine ⟨_, rfl, x.fuse, reads_load scI (cell_cells b4 (by simp [diskC])), _, rfl, svc_store_box szI b4 (by simp [diskC]) rfl (one_int _ _) fun h11 s11 b11 u11 => ⟨_, rfl, (x.fuse - 1 : Nat), ?_, ?_⟩⟩
    · refine reads_load scI (cell_cells b11 ?_)
      have := hp.ok.fuse
      have hw : IntKind.i64.wrap ((x.fuse : Int) - 1) = ((x.fuse - 1 : Nat) : Int) := by rw [wrap_i64 (by omega) (by omega)]; omega
      simp [diskC, hw]
    · have hf := hp.ok.fuse
      have hw : IntKind.i64.wrap ((x.fuse : Int) - 1) = ((x.fuse - 1 : Nat) : Int) := by rw [wrap_i64 (by omega) (by omega)]; omega
      refine ⟨⟨fun b h0 => by rw [s11, s4]; exact hO b h0, c1, p1, c2, p2, A, n, c, hp.store (c' := _) (A' := A) (n' := n) (m' := c) b11 ?_ (u4.trans u11) rfl rfl rfl okA, hb⟩, uO.trans (u11.of_sub fun i _ e => e ▸ hOd), ?_⟩
      · simp [diskC, act, hw]
      · congr 1
        unfold goes
        have : x.fuse - 1 = 0 ↔ x.fuse = 1 := by omega
        by_cases h1 : x.fuse = 1
        · rw [h1]; rfl
        · rw [beq_eq_false_iff_ne.2 h1, beq_eq_false_iff_ne]; omega
  · have e : x.fuse = 0 := by simpa using e
    refine ⟨⟨fun b h0 => by rw [s4]; exact hO b h0, c1, p1, c2, p2, A, n, c, hp.store (c' := _) (A' := A) (n' := n) (m' := c) b4 ?_ u4 rfl rfl rfl okA, hb⟩, uO, ?_⟩
    · simp [diskC, act, e]
    · simp [goes, e]
end Go.Proofs.Ytembbemljejjbaa
