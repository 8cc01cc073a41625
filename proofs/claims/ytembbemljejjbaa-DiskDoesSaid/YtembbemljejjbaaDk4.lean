/-
  The disk's power goes: what is kept, and what is there behind it. Conditions: none.
-/
import Derived.Test.YtembbemljejjbaaDk3
import Derived.Test.YtembbemljejjbaaDkB
set_option linter.unusedVariables false
set_option linter.unusedSimpArgs false
set_option maxRecDepth 100000
namespace Go.Proofs.Ytembbemljejjbaa
open Go Go.Vc Go.Proofs Go.Dk

theorem Like.names {F : Fs} {mc : List (Str × Int)} {mp : List ((Str × Int) × Str)} (hl : Like F mc mp) (q : Str) : q ∈ names F ↔ q ∈ mKeys mc := by
  rw [← Classical.not_not (a := q ∈ Dk.names F), ← Classical.not_not (a := q ∈ mKeys mc), ← mGet_none, ← mGet_none, hl.count]
  cases mGet F q <;> simp
theorem Like.add {F : Fs} {mc : List (Str × Int)} {mp : List ((Str × Int) × Str)} (hl : Like F mc mp) (hF : SrtF F) (n : Str) (hn : mGet F n = none) : Like (put n [] F) (mPut mc n 0) mp := by
  have hp : ∀ m, pgs (put n [] F) m = pgs F m := fun m => by
    rw [Dk.pgs_put hF]; split
    · rename_i e; subst e; simp [pgs, hn]
    · rfl
  refine ⟨fun m => ?_, fun m i => ?_, fun m i hi => ?_⟩
  · rw [mGet_put, get_put hF]
    by_cases e : n = m
    · subst e; simp
    · rw [if_neg e, if_neg (Ne.symm e)]; exact hl.count m
  · have := hl.page m i; unfold pg at this ⊢; rw [hp]; exact this
  · rw [hp]; exact hl.there m i hi

theorem WtE_at {w : Wt} {h : Heap} {b : Nat} (hb : h[b]? = some (.cells (WtE.enc w).toArray 98 (0, 0))) :
    Reads Try.prog (Instr.loadAt 94 (.pointer (some ⟨b, 0, none⟩))) h (.agg (Array.mk [.string w.n, .int .i64 w.i])) ∧
    Reads Try.prog (Instr.loadAt 96 (.pointer (some ((⟨b, 0, none⟩ : Addr).add 2)))) h (pv w.p) := by
  refine ⟨reads_load_agg (cs := [.string w.n, .int .i64 w.i]) agAt rfl fun j v hj => ?_, reads_load_agg (cs := pgC w.p) agPage (pgC_len _) (cells_part hb fun j v hj => ?_)⟩
  · refine cell_cells hb ?_
    match j, hj with
    | 0, hj => simpa [WtE] using hj
    | 1, hj => simpa [WtE] using hj
    | j + 2, hj => simp at hj
  · show (Value.string w.n :: .int .i64 w.i :: pgC w.p)[2 + j]? = some v
    rw [Nat.add_comm]; exact hj
theorem WtE_one (w : Wt) : oneCells (WtE.enc w) := fun v hv => WtE.one w v hv
/-- a write that came out of the row goes into a box of its own. -/
theorem svc_store_wt {h : Heap} {z : Array Value} {w : Wt} {K : Unit → Heap → Prop} (hz : IsZ Try.prog 98 z) (k : K () (h.push (.cells (WtE.enc w).toArray 98 (0, 0)))) :
    SVC Try.prog (Instr.storeAt 98 (.pointer (some ⟨h.size, 0, none⟩)) (.agg (WtE.enc w).toArray)) (h.push (.cells z 98 (0, 0))) K := by
  have hl := WtE.len w
  refine svc_store_new (v := .agg (WtE.enc w).toArray) ?_ ?_ (WtE_one w) k
  · show szOf _ _ = some (WtE.enc w).toArray.size; rw [List.size_toArray, hl]; exact szWrite
  · show z.size = (WtE.enc w).length; rw [hz.eq, hl]; exact zcWrite
theorem reads_wt {h : Heap} {A : Option Addr} {n c k : Nat} {ws : List Wt} {w : Wt} (ho : Sl WtE h A n ws) (hw : ws[k]? = some w) : ∃ p, A = some p ∧
    Reads Try.prog (Instr.loadAt 98 (.pointer (some (p.add (k * 514))))) h (.agg (WtE.enc w).toArray) := by
  obtain ⟨p, hA, hc⟩ := ho.get hw
  refine ⟨p, hA, reads_load_agg agWrite (WtE.len w) fun j v hj => ?_⟩
  rw [Addr.add_add]; exact hc j v hj

theorem DiskP.side1 {h : Heap} {d c1 p1 c2 p2 : Nat} {A : Option Addr} {n c : Nat} {x : D} (hp : DiskP h d c1 p1 c2 p2 A n c x) :
    Reads Try.prog (Instr.loadAt 87 (.pointer (some ⟨d, 0, none⟩))) h (.agg (Array.mk [.map (some c1), .map (some p1)])) :=
  reads_load_agg (cs := [.map (some c1), .map (some p1)]) agSide rfl fun j v hj => cell_cells hp.box (by
    match j, hj with
    | 0, hj => simpa [diskC] using hj
    | 1, hj => simpa [diskC] using hj
    | j + 2, hj => simp at hj)
theorem DiskP.side2 {h : Heap} {d c1 p1 c2 p2 : Nat} {A : Option Addr} {n c : Nat} {x : D} (hp : DiskP h d c1 p1 c2 p2 A n c x) :
    Reads Try.prog (Instr.loadAt 87 (.pointer (some ((⟨d, 0, none⟩ : Addr).add 2)))) h (.agg (Array.mk [.map (some c2), .map (some p2)])) :=
  reads_load_agg (cs := [.map (some c2), .map (some p2)]) agSide rfl (cells_part hp.box fun j v hj => by
    match j, hj with
    | 0, hj => simpa [diskC] using hj
    | 1, hj => simpa [diskC] using hj
    | j + 2, hj => simp at hj)
/-- the safe side has turned. -/
theorem DiskP.safe_turn {h h' : Heap} {d c1 p1 c2 p2 : Nat} {A : Option Addr} {n c : Nat} {x : D} {G : Fs} (hp : DiskP h d c1 p1 c2 p2 A n c x) (u : Upd (two c2 p2) h h') (hs : SideAt h' c2 p2 G) (ok : Ok { x with safe := G }) :
    DiskP h' d c1 p1 c2 p2 A n c { x with safe := G } := by
  obtain ⟨q1, q2, q3, q4⟩ := hp.ne_map
  have nd := hp.nd
  simp at nd
  refine ⟨u.at hp.box ?_, hp.now.upd u ?_ ?_, hs, hp.waits.upd u fun b hb => ?_, hp.nd, ok⟩
  · rintro (e | e) <;> omega
  · rintro (e | e) <;> omega
  · rintro (e | e) <;> omega
  · have := hp.ne_waits hb
    rintro (e | e) <;> omega
theorem two_blks2 {d c1 p1 c2 p2 : Nat} {A : Option Addr} : ∀ b, two c2 p2 b → blks d c1 p1 c2 p2 A b := fun b h => h.elim (fun e => .inr (.inr (.inr (.inl e)))) fun e => .inr (.inr (.inr (.inr (.inl e))))
theorem two_blks1 {d c1 p1 c2 p2 : Nat} {A : Option Addr} : ∀ b, two c1 p1 b → blks d c1 p1 c2 p2 A b := fun b h => h.elim (fun e => .inr (.inl e)) fun e => .inr (.inr (.inl e))

theorem off_spec {h : Heap} {d : Nat} {x : D} {O : Nat → Prop} {keep : Int} (hd : DiskAt h d x O) (hk : 0 ≤ keep ∧ keep < 18446744073709551616) (hwn : x.waits.length ≤ 1073741824) :
    HC Try.prog 19 #[.pointer (some ⟨d, 0, none⟩), .int .u64 keep] h
      fun v h' => ∃ O', DiskAt h' d (off keep x) O' ∧ (∀ b, O' b → O b ∨ h.size ≤ b) ∧ Upd O h h' ∧ v = .tuple #[] := by
  have hr := ready_spec hd
  obtain ⟨hO, c1, p1, c2, p2, A, n, c, hp, hb⟩ := hd
  refine HC_of_vc (args := [.pointer (some ⟨d, 0, none⟩), .int .u64 keep]) (base := 83) (cuts := []) (bigs := []) hm Try.func19 ?_
  rw [vcOff]
  refine hr.mono ?_
  rintro v h1 ⟨rfl, rfl⟩
  refine ⟨_, rfl, br_intro (fun e => ?_) (fun e => ?_)⟩
  · have hdn : x.down = true := by cases hdn : x.down <;> simp [hdn] at e ⊢
    refine ⟨O, ?_, fun b h => .inl h, Upd.refl _ _, rfl⟩
    unfold off; rw [if_pos hdn]
    exact ⟨hO, c1, p1, c2, p2, A, n, c, hp, hb⟩
  have hdn : x.down = false := by cases hdn : x.down <;> simp [hdn] at e ⊢
  have hn : x.waits.length = n := hp.waits.1
  have hc1 := hp.now.lt.1
  refine ⟨_, rfl, A, n, c, reads_load scWs (hp.rd rfl), ?_⟩
  refine ⟨fun n9 h10 => ∃ k : Nat, n9 = k ∧ k ≤ n ∧ DiskP h10 d c1 p1 c2 p2 A n c { x with safe := keepW keep 0 (x.waits.take k) x.safe } ∧ Upd (blks d c1 p1 c2 p2 A) h1 h10,
    fun n9 _ => n - n9.toNat, ⟨0, rfl, by omega, by simpa [keepW] using hp, Upd.refl _ _⟩, ?_⟩
  rintro n9 h10 ⟨k, rfl, hkn, hpk, uk⟩
  refine br_intro (fun hlt => ?_) (fun hge => ?_)
  · have hlt : k < n := by simpa using hlt
    have hw : x.waits[k]? = some (x.waits[k]'(by omega)) := List.getElem?_eq_getElem (by omega)
    generalize x.waits[k]'(by omega) = w at hw
    have hmem : w ∈ x.waits := List.mem_of_getElem? hw
    obtain ⟨q, hA, hq⟩ := reads_wt (c := c) hpk.waits.sl hw
    refine ⟨q, ⟨hA, by omega, by omega⟩, _, hq, zc Try.prog 98, ⟨rfl⟩, svc_store_wt ⟨rfl⟩ ?_⟩
    have hat := push_at h10 (.cells (WtE.enc w).toArray 98 (0, 0))
    have kq := keep_push h10 (.cells (WtE.enc w).toArray 98 (0, 0))
    have hpq := hpk.upd (kq.upd fun _ => False) fun _ _ h => h
    have hstep := keepW_take keep x.waits 0 k x.safe w hw
    rw [Nat.zero_add] at hstep
    have uq := uk.trans (kq.upd (blks d c1 p1 c2 p2 A))
    have hwr : IntKind.i64.wrap ((k : Int) + 1) = ((k + 1 : Nat) : Int) := by rw [wrap_i64 (by omega) (by omega)]; rfl
    refine ⟨by decide, by rw [Int.tmod_eq_emod_of_nonneg (by omega)]; omega, ?_⟩
    rw [kept_eq hk k, hwr]
    refine br_intro (fun hkp => ?_) (fun hkp => ?_)
    · rw [if_pos hkp] at hstep
      obtain ⟨r1, r2⟩ := WtE_at hat
      have nd := hpq.nd
      simp at nd
      have hwi := hp.ok.waits w hmem
      have hbd : w.i < 4611686018427387904 := by
        have h1 := hp.ok.tot
        have h2 := hp.ok.room
        have h3 := tot_put hp.ok.now w.n []
        have h4 := hwi.1
        simp at h3
        omega
      refine ⟨_, rfl, some c2, some p2, hpq.side2, w.n, (w.i : Int), r1, _, r2, (set_spec hpq.safe hpq.ok.safe (by omega) hbd).mono ?_⟩
      rintro v h23 ⟨s23, u23, rfl⟩
      refine ⟨rfl, ⟨k + 1, rfl, hlt, ?_, uq.trans (u23.mono two_blks2)⟩, by dsimp only; omega⟩
      rw [hstep]
      exact hpq.safe_turn u23 s23 (ok_app1 hpq.ok hmem)
    · rw [if_neg (by simpa using hkp)] at hstep
      refine ⟨⟨k + 1, rfl, hlt, ?_, uq⟩, by dsimp only; omega⟩
      rw [hstep]; exact hpq
  have hkn' : k = n := by have : ¬ (k : Int) < n := by simpa using hge
                          omega
  subst hkn'
  rw [← hn, List.take_length] at hpk
  rw [hn] at hpk
  obtain ⟨mc, mp, hc, hmp, hl⟩ := hpk.now
  refine ⟨_, rfl, some c1, reads_load scMc (cell_cells0 hpk.box rfl), svc_range (M := Mc) hc fun h27 k27 s27 i27 => ⟨_, rfl, ?_⟩⟩
  have hu10 := uk.size
  refine ⟨fun h31 => ∃ left cur dn, IterAt Mc h31 h10.size c1 mc left cur ∧ DiskP h31 d c1 p1 c2 p2 A k c { x with safe := dn.foldl addN (keepW keep 0 x.waits x.safe) } ∧
      Upd (blks d c1 p1 c2 p2 A) h1 h31 ∧ (∀ q, q ∈ names x.now ↔ q ∈ dn ∨ q ∈ mKeys left), fun h31 => leftN h31 h10.size,
    ⟨mc, none, [], i27, hpk.upd (k27.upd fun _ => False) (fun _ _ h => h), uk.trans (k27.upd _), fun q => by rw [hl.names]; simp⟩, ?_⟩
  rintro h31 ⟨left, cur, dn, hit, hpl, ul, hnm⟩
  have hl31 := hit.lt
  refine svc_next hit (fun hl0 => .inl ⟨rfl, ?_⟩) fun j q h33 hj u33 s33 i33 => .inr ⟨_, _, rfl, ?_⟩
  · subst hl0
    have hoff : dn.foldl addN (keepW keep 0 x.waits x.safe) = offS keep x := addAll_ext (ok_keepW keep x.waits 0 (G := x.safe) hp.ok fun _ h => h).safe fun q => by rw [hnm q]; simp [mKeys]
    rw [hoff] at hpl
    refine ⟨_, rfl, _, _, hpl.side2, (clone_spec hpl.safe).mono ?_⟩
    rintro v h38 ⟨k38, c', p', rfl, s38, l1, l2, l3⟩
    have hp38 := hpl.upd (k38.upd fun _ => False) fun _ _ h => h
    have z38 := k38.size
    refine ⟨_, _, rfl, _, rfl, svc_store_at (v := .agg (Array.mk [.map (some c'), .map (some p')])) szSide hp38.box (by simp [diskC, Value.cells]) (side_cells _ _) fun h43 s43 b43 u43 => ⟨_, rfl,
      svc_store_box szWs b43 (by simp [diskC, Value.cells, putL]) rfl (one_slice _ _ _) fun h46 s46 b46 u46 => ⟨_, rfl, svc_store_box szB b46 (by simp [diskC, Value.cells, putL]) rfl (one_bool _) fun h49 s49 b49 u49 => ⟨_, rfl,
      svc_store_box szI b49 (by simp [diskC, Value.cells, putL]) rfl (one_int _ _) fun h52 s52 b52 u52 => ?_⟩⟩⟩⟩
    have ub := ((u43.trans u46).trans (u49.trans u52))
    have zb : h52.size = h38.size := by omega
    have nm := hpl.ne_map
    have nd := hpl.nd
    simp at nd
    have lt2 := hpl.safe.lt
    have ld := at_lt hpl.box
    have hOd := hb d (.inl rfl)
    have uall : Upd O h1 h52 := (ul.mono hb).trans ((k38.upd O).trans (ub.mono fun b e => e ▸ hOd))
    refine ⟨fun b => O b ∨ (h1.size ≤ b ∧ b < h52.size), ⟨fun b h0 => ?_, c', p', c2, p2, none, 0, 0, ⟨?_, ?_, ?_, ?_, ?_, ok_off hp.ok keep⟩, ?_⟩, fun b h0 => h0.imp id (·.1), uall, rfl⟩
    · rcases h0 with h0 | h0
      · exact Nat.lt_of_lt_of_le (hO b h0) uall.size
      · exact h0.2
    · rw [b52]; simp [diskC, Value.cells, putL, off, hdn]
    · have : (off keep x).now = offS keep x := by simp [off, hdn]
      rw [this]; exact s38.upd ub (by omega) (by omega)
    · have : (off keep x).safe = offS keep x := by simp [off, hdn]
      rw [this]; exact hp38.safe.upd ub (by omega) (by omega)
    · have : (off keep x).waits = [] := by simp [off, hdn]
      rw [this]; exact Own.nil _ _ _
    · simp; omega
    · have l38 := s38.lt
      rintro b (rfl | rfl | rfl | rfl | rfl | ⟨a, e, _⟩)
      · exact .inl hOd
      · exact .inr ⟨by have := ul.size; omega, by omega⟩
      · exact .inr ⟨by have := ul.size; omega, by omega⟩
      · exact .inl (hb _ (.inr (.inr (.inr (.inl rfl)))))
      · exact .inl (hb _ (.inr (.inr (.inr (.inr (.inl rfl))))))
      · cases e
  · have hnit : ∀ b, blks d c1 p1 c2 p2 A b → ¬ b = h10.size := fun b hb0 e => by have := hpk.lt hb0; omega
    have hp33 := hpl.upd u33 hnit
    have hmj := mem_erase left j q hj
    have hlt := (List.getElem?_eq_some_iff.1 hj).1
    have hlen : (left.eraseIdx j).length < left.length := by rw [List.length_eraseIdx, if_pos hlt]; omega
    have ul33 : Upd (blks d c1 p1 c2 p2 A) h1 h33 := ⟨by have := ul.size; omega, fun b hb1 hb2 => (u33.block b (by have := ul.size; omega) (by omega)).trans (ul.block b hb1 hb2)⟩
    · obtain ⟨mc2, mp2, hc2, hmp2, hl2⟩ := hp33.safe
      refine ⟨q.1, _, reads_entry i33, _, rfl, some c2, reads_load scMc (hp33.rd rfl), _, _, reads_count2 hc2 hl2 q.1, br_intro (fun hb1 => ?_) (fun hb1 => ?_)⟩
      · have hnone : mGet (dn.foldl addN (keepW keep 0 x.waits x.safe)) q.1 = none := by simpa using hb1
        refine ⟨_, rfl, some c2, reads_load scMc (hp33.rd rfl), svc_mapUpdate (M := Mc) (k := q.1) (v := 0) hc2 fun h64 s64 u64 m64 => ?_⟩
        have nd := hp33.nd
        simp at nd
        have i64 := i33.upd u64 (by have := hpk.safe.lt; omega) (by omega)
        have u64' : Upd (two c2 p2) h33 h64 := u64.mono fun b e => .inl e
        refine ⟨⟨left.eraseIdx j, some q, dn ++ [q.1], i64, ?_, ul33.trans (u64'.mono two_blks2), fun r => ?_⟩, ?_⟩
        · rw [List.foldl_append, List.foldl_cons, List.foldl_nil]
          refine hp33.safe_turn u64' ?_ (ok_addN hp33.ok q.1)
          rw [addN_none hnone]
          exact ⟨_, _, m64, hmp2.upd u64 (by omega), hl2.add hp33.ok.safe q.1 hnone⟩
        · rw [hnm r, hmj r, List.mem_append, List.mem_singleton]
          exact ⟨fun h => h.elim (fun h => .inl (.inl h)) (fun h => h.elim (fun h => .inl (.inr h)) .inr), fun h => h.elim (fun h => h.elim .inl (fun h => .inr (.inl h))) (fun h => .inr (.inr h))⟩
        · dsimp only; rw [i64.leftN, hit.leftN]; exact hlen
      · refine ⟨⟨left.eraseIdx j, some q, dn ++ [q.1], i33, ?_, ul33, fun r => ?_⟩, ?_⟩
        · rw [List.foldl_append, List.foldl_cons, List.foldl_nil]
          have : addN (dn.foldl addN (keepW keep 0 x.waits x.safe)) q.1 = dn.foldl addN (keepW keep 0 x.waits x.safe) := addN_some (by simpa using hb1)
          rw [this]; exact hp33
        · rw [hnm r, hmj r, List.mem_append, List.mem_singleton]
          exact ⟨fun h => h.elim (fun h => .inl (.inl h)) (fun h => h.elim (fun h => .inl (.inr h)) .inr), fun h => h.elim (fun h => h.elim .inl (fun h => .inr (.inl h))) (fun h => .inr (.inr h))⟩
        · dsimp only; rw [i33.leftN, hit.leftN]; exact hlen
end Go.Proofs.Ytembbemljejjbaa
