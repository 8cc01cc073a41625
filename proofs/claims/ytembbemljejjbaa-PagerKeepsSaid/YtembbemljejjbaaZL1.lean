/-
  Texts of this seat, laid one behind the other: PgG1 PgG2 PgG3. Conditions: none.
-/
import Derived.Test.YtembbemljejjbaaZF
section
set_option linter.unusedVariables false
set_option linter.unusedSimpArgs false
set_option maxRecDepth 100000
namespace Go.Proofs.Ytembbemljejjbaa
open Go Go.Vc Go.Proofs Go.Dk Go.Cd
open Go.Pg (SrtI Quiet Nx)

/-- a row of texts in blocks of N. -/
structure RowN (N : Nat → Prop) (h : Heap) (a : Option Addr) (k : Nat) (l : List Str) : Prop where
  sl : Sl StrE h a k l
  n : k ≠ 0 → ∀ q, blk a q → N q
theorem RowN.nil (N : Nat → Prop) (h : Heap) (a : Option Addr) : RowN N h a 0 [] := ⟨Sl.nil _ _, fun h => absurd rfl h⟩
section
variable {h h' : Heap} {N N' S : Nat → Prop} {a : Option Addr} {k : Nat} {l : List Str}
theorem RowN.updM (hr : RowN N h a k l) (u : UpdM S h h') (hs : ∀ q, N q → ¬ S q) : RowN N h' a k l := ⟨hr.sl.updM u fun hn q hq => hs q (hr.n hn q hq), hr.n⟩
theorem RowN.keep (hr : RowN N h a k l) (kk : Keep h.size h h') : RowN N h' a k l := hr.updM (S := fun _ => False) kk.m fun _ _ => id
theorem RowN.mono (hr : RowN N h a k l) (hs : ∀ q, N q → N' q) : RowN N' h a k l := ⟨hr.sl, fun hn q hq => hs q (hr.n hn q hq)⟩
theorem RowN.stp {d : Nat} {x' : D} (hr : RowN N h a k l) (st : Stp N d x' h h') : RowN N h' a k l := hr.updM st.up fun q hq hn => hn hq
end
theorem turn_stp {h0 h h' : Heap} {N : Nat → Prop} {d : Nat} {x' : D} (t : Turn h0 h) (hN : ∀ q, q < h0.size → N q) (st : Stp N d x' h h') : Turn h0 h' :=
  ((t.m (S := fun _ => False)).trans' st.up fun q hq hn => hn (hN q hq)).turn fun _ _ => id
theorem turn_keep {h0 h h' : Heap} (t : Turn h0 h) (k : Keep h.size h h') : Turn h0 h' := ((t.m (S := fun _ => False)).trans k.m).turn fun _ _ => id
/-- a disk with one pager's file. -/
structure One (room : Nat) (l : List Str) (x : D) : Prop where
  q : Quiet x
  room : x.room = room
  pages : pgs x.now nf = l
  draft : mGet x.now (Pg.nmT nf) = none
  journal : mGet x.now (Pg.nmJ nf) = none
  tot : tot x.now = l.length
theorem One.cm {room : Nat} {l : List Str} {x y : D} {W : Pg.Rw} (o : One room l x) (c : Cm x y nf W) : One room (Pg.laidL W l) y := by
  obtain ⟨n1, n2, _⟩ := Pg.nm_ne nf
  have h1 := c.tot
  rw [o.pages, o.tot] at h1
  exact ⟨c.q, c.room.trans o.room, by rw [c.pages, o.pages], by rw [c.other _ n1]; exact o.draft, by rw [c.other _ n2]; exact o.journal, by omega⟩
theorem One.free {room : Nat} {l : List Str} {x : D} (o : One room l x) : Dk.free x = (room : Int) - l.length := by unfold Dk.free; rw [o.room, o.tot]
theorem One.new {room : Int} (h0 : 0 ≤ room) (h1 : room ≤ 60) : One room.toNat [] (Dk.new room) :=
  ⟨new_quiet _, by show (min (max room 0) 4096).toNat = _; omega, rfl, rfl, rfl, rfl⟩
set_option maxHeartbeats 4000000 in
theorem commits_spec {h : Heap} {A : Option Addr} {n c : Nat} {room : Int} {ss : List Sp} (hs : StepsAt h A n ss) (hn : n ≤ 9223372036854775807) (hb : ∀ s ∈ ss, s.n ≤ 9223372036854775807) :
    HC Try.prog 10 #[.int .i64 room, .slice A n c] h fun v h' => Keep h.size h h' ∧ v = .bool true := by
  refine hc_keep ?_
  refine HC_of_vc (args := [.int .i64 room, .slice A n c]) (base := 104) (cuts := [19]) (bigs := []) hm Try.func10 ?_
  rw [vcPgCommits]
  have hl := hs.sl.1
  refine (pgalive_spec).mono ?_
  rintro v h1 ⟨k1, rfl⟩
  have t1 : Turn h h1 := turn_keep (Turn.refl h) k1
  refine ⟨_, rfl, br_intro (fun e => by cases e) fun _ => ((pgreat_spec (hs.keep k1) hn hb).mono ?_)⟩
  rintro v h4 ⟨k4, b5, rfl, hg⟩
  have k14 := k1.trans (k4.mono k1.size)
  have t4 : Turn h h4 := turn_keep (Turn.refl h) k14
  refine ⟨_, rfl, br_intro (fun _ => ⟨t4, rfl⟩) fun e => ?_⟩
  simp only [Bool.or_eq_false_iff, decide_eq_false_iff_not] at e
  obtain ⟨⟨rfl, r0⟩, r1⟩ := e
  obtain ⟨hn12, hs8⟩ := hg rfl
  refine (St.new (Keep.refl _ h4) room).mono ?_
  rintro v h7 ⟨d, rfl, st7⟩
  have d7 := st7.frame.dn
  have kb := st7.frame.base
  have o7 := One.new (room := room) (by omega) (by omega)
  refine ⟨_, rfl, (open_quiet (nm := nf) d7 (by decide) rfl rfl rfl).mono ?_⟩
  rintro v h10 ⟨k10, z10, rfl, p10⟩
  refine ⟨_, _, rfl, br_intro (fun e => by simp at e) fun _ => ?_⟩
  have zb := kb.size
  refine ⟨fun _ a k c' n19 H => ∃ (j : Nat) (N : Nat → Prop) (x : D) (l : List Str), n19 = j ∧ j ≤ n ∧ DN N d x H ∧ N h7.size ∧ (∀ q, q < h.size → N q) ∧ Turn h H ∧ PagerAt H h7.size d nf ∧ RowN N H a k l ∧ One room.toNat l x ∧ x.waits.length ≤ 40 * j ∧ l.length ≤ 60,
    fun _ _ _ _ n19 _ => n - n19.toNat, ⟨0, Nw (fun q => q < h4.size ∨ False) h7 h10, _, [], rfl, Nat.zero_le _, d7.wide k10, .inr ⟨Nat.le_refl _, by omega⟩, fun q hq => .inl (.inl (Nat.lt_of_lt_of_le hq k14.size)),
      turn_keep (turn_keep t4 kb) k10, p10, RowN.nil _ _ _, o7, Nat.zero_le _, Nat.zero_le _⟩, ?_⟩
  rintro b15 a16 k17 k18 n19 H ⟨j, N, x, l, rfl, hj, dH, hNp, hNh, tH, pH, rH, one, hwt, hl60⟩
  have hlk := rH.sl.1
  subst hlk
  refine br_intro (fun e => ?_) fun e => ?_
  · have e := of_decide_eq_true e
    have hlt : j < n := by omega
    have hq : ss[j]? = some (ss[j]'(by omega)) := List.getElem?_eq_getElem (by omega)
    have hmem := List.getElem_mem (by omega : j < ss.length)
    generalize ss[j]'(by omega) = s at hq hmem
    have sH := hs.turn tH
    have so := sH.each s hmem
    obtain ⟨p21, ea, rd⟩ := sp_at sH.sl hq
    refine ⟨p21, ⟨ea, by omega, by omega⟩, _, _, _, _, _, rd, svc_sp rfl ?_⟩
    have bx := push_at H (spBox s)
    have kx := keep_push H (spBox s)
    generalize H.push (spBox s) = H2 at bx kx
    refine ⟨_, _, _, _, _, sp_all bx, (writes_spec (so.keep kx) (by have := hs8 s hmem; omega)).mono ?_⟩
    rintro v h35 ⟨k35, r, aW, kW, cW, ml, W, rfl, hW, hpg, slW, bW, hkW, hml⟩
    have kH35 := kx.trans (k35.mono kx.size)
    have d35 := dH.keep kH35
    refine ⟨_, _, _, _, rfl, (d35.free).mono ?_⟩
    rintro v h41 ⟨k41, rfl⟩
    have kH41 := kH35.trans (k41.mono kH35.size)
    have hs8' := hs8 s hmem
    have hWl := hW.len
    have hfr := one.free
    refine ⟨_, rfl, (wants_spec (slW.keep k41) (by have := slW.1; omega) (by omega) (by omega) hkW).mono ?_⟩
    rintro v h44 ⟨k44, rfl⟩
    have kH44 := kH41.trans (k44.mono kH41.size)
    have d44 := dH.wide kH44
    have z35 := k35.size
    have zx := kx.size
    have z44 := (k41.trans (k44.mono k41.size)).size
    have pg44 : PgsAt (Nw N H h44) h44 r ml := ((hpg.keep k41).keep k44).mono fun q hq => .inr ⟨by omega, by omega⟩
    refine ⟨_, rfl, (commit_law (pH.keep kH44) (.inl hNp) d44 pg44 hW one.q one.draft one.journal (by omega) (by omega)).mono ?_⟩
    rintro v h47 ⟨y, st47, rfl, y0, y1, yw⟩
    rw [one.pages] at y0 y1
    refine ⟨_, rfl, ?_⟩
    rw [one.pages]
    have p47 := (pH.keep kH44).updM st47.up fun hn => hn (.inl hNp)
    have r47 : RowN (Nw N H h44) h47 a16 l.length l := ((rH.keep kH44).mono fun q hq => .inl hq).stp st47
    have t47 := turn_stp (turn_keep tH kH44) (fun q hq => .inl (hNh q hq)) st47
    refine br_intro (fun e2 => by simp at e2) fun _ => ⟨fun a k c' G => ∃ (N' : Nat → Prop) (x' : D) (l' : List Str), DN N' d x' G ∧ N' h7.size ∧ (∀ q, q < h.size → N' q) ∧ Turn h G ∧ PagerAt G h7.size d nf ∧ RowN N' G a k l' ∧ One room.toNat l' x' ∧ x'.waits.length ≤ 40 * (j + 1), ?_, ?_⟩
    · refine br_intro (fun e3 => ?_) fun e3 => ?_
      · have e3 : Pg.wants l.length (Dk.free x) W = 0 := by simpa using e3
        have cm := y1 e3
        have sl47 := ((slW.keep k41).keep k44).updM st47.up fun _ q hq hn => hn (.inr ⟨by have := (bW q hq).1; omega, by have := (bW q hq).2; omega⟩)
        have hsq := cm.seq
        rw [one.pages] at hsq
        refine (laid_spec r47.sl sl47 (by omega) (by have := slW.1; omega) cm.size hsq).mono ?_
        rintro v h51 ⟨k51, a, k, c', rfl, o51⟩
        refine ⟨_, _, _, rfl, Nw (Nw N H h44) h47 h51, y, _, st47.dn.wide k51, .inl (.inl hNp), fun q hq => .inl (.inl (hNh q hq)), turn_keep t47 k51, p47.keep k51, ⟨o51.sl, fun _ q hq => .inr (o51.block q hq)⟩, one.cm cm, by omega⟩
      · have e3 : Pg.wants l.length (Dk.free x) W ≠ 0 := by simpa using e3
        have hy := y0 e3
        rw [hy] at st47
        exact ⟨Nw N H h44, x, l, st47.dn, .inl hNp, fun q hq => .inl (hNh q hq), t47, p47, r47, one, by omega⟩
    · rintro a55 k56 k57 G ⟨N', x', l', dG, hNp', hNh', tG, pG, rG, one', hwt'⟩
      have hlk' := rG.sl.1
      have okG := dG.ok
      have hl60' : l'.length ≤ 60 := by
        have := okG.tot
        rw [one'.tot, one'.room] at this; omega
      refine (has_spec' pG dG one'.q.down rG.sl (by omega)).mono ?_
      rintro v h60 ⟨k60, rfl⟩
      rw [one'.pages, decide_eq_true rfl]
      refine ⟨_, rfl, br_intro (fun _ => ?_) fun e => by cases e⟩
      refine ((dG.keep k60).free).mono ?_
      rintro v h63 ⟨k63, rfl⟩
      have kG63 := k60.trans (k63.mono k60.size)
      have hfr' := one'.free
      have e4 : IntKind.i64.wrap (room - (k56 : Int)) = Dk.free x' := by rw [wrap_i64 (by omega) (by omega), hfr']; omega
      refine ⟨_, rfl, ?_⟩
      rw [e4]
      refine br_intro (fun e5 => by simp at e5) fun _ => ?_
      rw [wrap_i64 (by omega) (by omega)]
      exact ⟨⟨j + 1, N', x', l', rfl, hlt, dG.keep kG63, hNp', hNh', turn_keep tG kG63, pG.keep kG63, rG.keep kG63, one', hwt', hl60'⟩, by dsimp only; omega⟩
  · refine (pread_nil 0).mono ?_
    rintro v h66 ⟨rfl, rfl⟩
    refine ⟨_, _, _, _, rfl, (open_nil).mono ?_⟩
    rintro v h72 ⟨rfl, rfl⟩
    refine ⟨_, _, rfl, (commit_nil).mono ?_⟩
    rintro v h76 ⟨t76, rfl⟩
    refine ⟨_, rfl, br_intro (fun _ => ?_) fun e => by simp at e⟩
    refine (pcount_nil).mono ?_
    rintro v h79 ⟨rfl, rfl⟩
    exact ⟨_, rfl, tH.trans t76, rfl⟩
end Go.Proofs.Ytembbemljejjbaa
end

section
set_option linter.unusedVariables false
set_option linter.unusedSimpArgs false
set_option maxRecDepth 100000
namespace Go.Proofs.Ytembbemljejjbaa
open Go Go.Vc Go.Proofs Go.Dk Go.Cd
open Go.Pg (SrtI Quiet Nx)

theorem nmT_size (n : Str) : (Pg.nmT n).size = n.size + 2 := by unfold Pg.nmT; rw [ByteArray.size_append]; rfl
theorem nmJ_size (n : Str) : (Pg.nmJ n).size = n.size + 2 := by unfold Pg.nmJ; rw [ByteArray.size_append]; rfl
/-- a disk with files of pagers. -/
structure Fls (L : Str → List Str) (x : D) : Prop where
  q : Quiet x
  pages : ∀ n, n.size = 1 → pgs x.now n = L n
  gone : ∀ n, n.size = 3 → mGet x.now n = none
theorem Fls.draft {L : Str → List Str} {x : D} (o : Fls L x) {nm : Str} (h : nm.size = 1) : mGet x.now (Pg.nmT nm) = none := o.gone _ (by rw [nmT_size, h])
theorem Fls.journal {L : Str → List Str} {x : D} (o : Fls L x) {nm : Str} (h : nm.size = 1) : mGet x.now (Pg.nmJ nm) = none := o.gone _ (by rw [nmJ_size, h])
def setL (L : Str → List Str) (nm : Str) (l : List Str) : Str → List Str := fun n => if n = nm then l else L n
theorem Fls.cm {L : Str → List Str} {x y : D} {nm : Str} {W : Pg.Rw} (o : Fls L x) (hn : nm.size = 1) (c : Cm x y nm W) : Fls (setL L nm (Pg.laidL W (L nm))) y := by
  refine ⟨c.q, fun n h1 => ?_, fun n h3 => ?_⟩
  · unfold setL
    by_cases e : n = nm
    · rw [if_pos e, e, c.pages, o.pages nm hn]
    · rw [if_neg e, ← o.pages n h1]; unfold pgs; rw [c.other n e]
  · rw [c.other n fun e => by rw [e, hn] at h3; cases h3]; exact o.gone n h3
theorem Fls.new (r : Int) : Fls (fun _ => []) (Dk.new r) := ⟨new_quiet r, fun _ _ => rfl, fun _ _ => rfl⟩
theorem pgs_le {x : D} (ok : Ok x) (n : Str) : (pgs x.now n).length ≤ 4096 := by
  have h1 := tot_del ok.now n
  have h2 := ok.tot
  have h3 := ok.room
  omega
theorem free_rng {x : D} (ok : Ok x) : -100000 ≤ Dk.free x ∧ Dk.free x ≤ 100000 := by
  have h2 := ok.tot
  have h3 := ok.room
  unfold Dk.free; omega
set_option maxHeartbeats 2000000 in
/-- one step of a pager's: what must be answered, what is laid, what is committed. -/
theorem step_law {H : Heap} {N : Nat → Prop} {d p r : Nat} {nm : Str} {x : D} {L : Str → List Str} {a aW : Option Addr} {c kW cW : Nat} {ml : List (Int × Bv)} {W : Pg.Rw} {e0 : Int} {K : Int → Option Addr → Nat → Nat → Heap → Prop}
    (dH : DN N d x H) (hNp : N p) (pH : PagerAt H p d nm) (hnm : nm.size = 1) (rH : RowN N H a (L nm).length (L nm)) (fl : Fls L x) (hW : Rows ml W) (pg : PgsAt N H r ml) (slW : Sl PageE H aW kW W) (bW : ∀ q, blk aW q → N q)
    (hkW : ∀ q ∈ W, -9223372036854775808 ≤ q.1 ∧ q.1 ≤ 9223372036854775807) (hml : ml.length ≤ 8) (hw : x.waits.length ≤ 100000000)
    (k0 : ∀ G, Keep H.size H G → K e0 a (L nm).length c G)
    (k1 : ∀ G y a' k' c' N', Stp N d y H G → DN N' d y G → (∀ q, N q → N' q) → RowN N' G a' k' (Pg.laidL W (L nm)) → Fls (setL L nm (Pg.laidL W (L nm))) y → y.waits.length ≤ x.waits.length + 40 → K 0 a' k' c' G) :
    HC Try.prog 22 (Array.mk [.pointer (some ⟨d, 0, none⟩)]) H fun (v50 : Value) (h51 : Heap) => ∃ n52 : Int, v50 = .int .i64 n52 ∧
      HC Try.prog 39 (Array.mk [.slice aW kW cW, .int .i64 ((L nm).length : Nat), .int .i64 n52]) h51 fun (v53 : Value) (h54 : Heap) => ∃ n55 : Int, v53 = .int .i64 n55 ∧
      br (n55 == 0) (HC Try.prog 41 (Array.mk [.slice a (L nm).length c, .slice aW kW cW]) h54 fun (v56 : Value) (h57 : Heap) => ∃ (a58 : Option Addr) (k59 k60 : Nat), v56 = .slice a58 k59 k60 ∧
        HC Try.prog 40 (Array.mk [.pointer (some ⟨p, 0, none⟩), .map (some r)]) h57 fun (v61 : Value) (h62 : Heap) => ∃ n63 : Int, v61 = .int .i64 n63 ∧ K n63 a58 k59 k60 h62) (K e0 a (L nm).length c h54) := by
  have ok := dH.ok
  have hpl := fl.pages nm hnm
  have h4 := pgs_le ok nm
  rw [hpl] at h4
  have hWl := hW.len
  refine (dH.free).mono ?_
  rintro v h51 ⟨k51, rfl⟩
  refine ⟨_, rfl, (wants_spec (slW.keep k51) (by have := slW.1; omega) (by omega) (free_rng ok) hkW).mono ?_⟩
  rintro v h54 ⟨k54, rfl⟩
  have kH54 := k51.trans (k54.mono k51.size)
  refine ⟨_, rfl, br_intro (fun e => ?_) fun e => k0 _ kH54⟩
  have e : Pg.wants (L nm).length (Dk.free x) W = 0 := by simpa using e
  obtain ⟨w1, w2⟩ := wants_ok e
  refine (laid_spec (rH.keep kH54).sl (slW.keep kH54) (by omega) (by have := slW.1; omega) w1 w2).mono ?_
  rintro v h57 ⟨k57, a', k', c', rfl, o57⟩
  have kH57 := kH54.trans (k57.mono kH54.size)
  have d57 := dH.wide kH57
  refine ⟨_, _, _, rfl, (commit_law (pH.keep kH57) (.inl hNp) d57 ((pg.keep kH57).mono fun q hq => .inl hq) hW fl.q (fl.draft hnm) (fl.journal hnm) hml hw).mono ?_⟩
  rintro v h62 ⟨y, st, rfl, y0, y1, yw⟩
  rw [hpl] at y0 y1 ⊢
  rw [e]
  have cm := y1 e
  have z54 := kH54.size
  refine ⟨_, rfl, k1 h62 y a' k' c' (Nw N H h57) (st.back kH57) st.dn (fun q hq => .inl hq) ⟨o57.sl.updM st.up fun _ q hq hn => hn (.inr ⟨by have := (o57.block q hq).1; omega, (o57.block q hq).2⟩), fun _ q hq => .inr ⟨by have := (o57.block q hq).1; omega, (o57.block q hq).2⟩⟩ (fl.cm hnm cm) yw⟩
set_option maxHeartbeats 4000000 in
theorem again_spec {h : Heap} {A : Option Addr} {n c : Nat} {ss : List Sp} (hs : StepsAt h A n ss) (hn : n ≤ 9223372036854775807) (hb : ∀ s ∈ ss, s.n ≤ 9223372036854775807) :
    HC Try.prog 12 #[.slice A n c] h fun v h' => Keep h.size h h' ∧ v = .bool true := by
  refine hc_keep ?_
  refine HC_of_vc (args := [.slice A n c]) (base := 94) (cuts := [22]) (bigs := []) hm Try.func12 ?_
  rw [vcPgAgain]
  have hl := hs.sl.1
  refine (pgalive_spec).mono ?_
  rintro v h1 ⟨k1, rfl⟩
  refine ⟨_, rfl, br_intro (fun e => by cases e) fun _ => ((pgreat_spec (hs.keep k1) hn hb).mono ?_)⟩
  rintro v h4 ⟨k4, b5, rfl, hg⟩
  have k14 := k1.trans (k4.mono k1.size)
  have t4 : Turn h h4 := turn_keep (Turn.refl h) k14
  refine ⟨_, rfl, br_intro (fun _ => ⟨t4, rfl⟩) fun e => ?_⟩
  obtain ⟨hn12, hs8⟩ := hg e
  refine (St.new (Keep.refl _ h4) 200).mono ?_
  rintro v h7 ⟨d, rfl, st7⟩
  have d7 := st7.frame.dn
  have kb := st7.frame.base
  have f7 := Fls.new 200
  refine ⟨_, rfl, (open_quiet (nm := nf) d7 (by decide) rfl rfl rfl).mono ?_⟩
  rintro v h10 ⟨k10, z10, rfl, p10⟩
  have d10 := d7.wide k10
  refine ⟨_, _, rfl, (open_quiet (nm := ng) d10 (by decide) rfl rfl rfl).mono ?_⟩
  rintro v h14 ⟨k14', z14, rfl, q14⟩
  have d14 := d10.wide k14'
  have zb := kb.size
  refine ⟨_, _, rfl, br_intro (fun e => by simp at e) fun _ => ?_⟩
  refine ⟨fun _ ap e a k c' b kb' cb n28 H => ∃ (j pp : Nat) (N : Nat → Prop) (x : D) (L : Str → List Str), n28 = j ∧ j ≤ n ∧ e = 0 ∧ ap = some ⟨pp, 0, none⟩ ∧ DN N d x H ∧ N pp ∧ N h10.size ∧ (∀ q, q < h.size → N q) ∧ Turn h H ∧ PagerAt H pp d nf ∧ PagerAt H h10.size d ng ∧
      RowN N H a k (L nf) ∧ RowN N H b kb' (L ng) ∧ Fls L x ∧ x.waits.length ≤ 40 * j,
    fun _ _ _ _ _ _ _ _ _ n28 _ => n - n28.toNat, ⟨0, h7.size, _, _, _, rfl, Nat.zero_le _, rfl, rfl, d14, .inl (.inr ⟨Nat.le_refl _, by omega⟩), .inr ⟨Nat.le_refl _, by omega⟩, fun q hq => .inl (.inl (.inl (Nat.lt_of_lt_of_le hq k14.size))),
      turn_keep (turn_keep (turn_keep t4 kb) k10) k14', p10.keep k14', q14, RowN.nil _ _ _, RowN.nil _ _ _, f7, Nat.zero_le _⟩, ?_⟩
  rintro b19 a20 n21 a22 k23 k24 a25 k26 k27 n28 H ⟨j, pp, N, x, L, rfl, hj, rfl, rfl, dH, hNp, hNq, hNh, tH, pH, qH, rf, rg, fl, hwt⟩
  refine br_intro (fun e => ?_) fun e => ⟨tH, rfl⟩
  have e := of_decide_eq_true e
  have hlt : j < n := by omega
  have hq : ss[j]? = some (ss[j]'(by omega)) := List.getElem?_eq_getElem (by omega)
  have hmem := List.getElem_mem (by omega : j < ss.length)
  generalize ss[j]'(by omega) = s at hq hmem
  have sH := hs.turn tH
  have so := sH.each s hmem
  obtain ⟨p21, ea, rd⟩ := sp_at sH.sl hq
  refine ⟨p21, ⟨ea, by omega, by omega⟩, _, _, _, _, _, rd, svc_sp rfl ?_⟩
  have bx := push_at H (spBox s)
  have kx := keep_push H (spBox s)
  generalize H.push (spBox s) = H2 at bx kx
  have hs8' := hs8 s hmem
  refine ⟨_, _, _, _, _, sp_all bx, (writes_spec (so.keep kx) (by omega)).mono ?_⟩
  rintro v h44 ⟨k44, r, aW, kW, cW, ml, W, rfl, hW, hpg, slW, bW, hkW, hml⟩
  have kH44 := kx.trans (k44.mono kx.size)
  have d44 := dH.wide kH44
  have zx := kx.size
  have pg44 : PgsAt (Nw N H h44) h44 r ml := hpg.mono fun q hq => .inr ⟨by omega, by omega⟩
  have bW44 : ∀ q, blk aW q → Nw N H h44 q := fun q hq => .inr ⟨by have := (bW q hq).1; omega, by have := (bW q hq).2; omega⟩
  have rf44 : RowN (Nw N H h44) h44 a22 k23 (L nf) := (rf.keep kH44).mono fun q hq => .inl hq
  have rg44 : RowN (Nw N H h44) h44 a25 k26 (L ng) := (rg.keep kH44).mono fun q hq => .inl hq
  have t44 := turn_keep tH kH44
  have p44 := pH.keep kH44
  have q44 := qH.keep kH44
  have hNp' : Nw N H h44 pp := .inl hNp
  have hNq' : Nw N H h44 h10.size := .inl hNq
  have hNh' : ∀ q, q < h.size → Nw N H h44 q := fun q hq => .inl (hNh q hq)
  generalize Nw N H h44 = M at d44 pg44 bW44 rf44 rg44 hNp' hNq' hNh'
  obtain rfl := rf44.sl.1
  obtain rfl := rg44.sl.1
  have hne : nf ≠ ng := by decide
  refine ⟨_, _, _, _, rfl, fun n78 a k c' b kb' cb G => ∃ (N' : Nat → Prop) (x' : D) (L' : Str → List Str), n78 = 0 ∧ DN N' d x' G ∧ N' h10.size ∧ (∀ q, q < h.size → N' q) ∧ Turn h G ∧ PagerAt G h10.size d ng ∧
      RowN N' G a k (L' nf) ∧ RowN N' G b kb' (L' ng) ∧ Fls L' x' ∧ x'.waits.length ≤ 40 * (j + 1), ⟨by decide, br_intro (fun _ => ?_) fun _ => ?_⟩, ?_⟩
  · refine step_law (c := k24) (K := fun n63 a k c' G => ∃ (N' : Nat → Prop) (x' : D) (L' : Str → List Str), n63 = 0 ∧ DN N' d x' G ∧ N' h10.size ∧ (∀ q, q < h.size → N' q) ∧ Turn h G ∧ PagerAt G h10.size d ng ∧
      RowN N' G a k (L' nf) ∧ RowN N' G a25 (L ng).length (L' ng) ∧ Fls L' x' ∧ x'.waits.length ≤ 40 * (j + 1)) d44 hNp' p44 (by decide) rf44 fl hW pg44 slW bW44 hkW (by omega) (by omega) (fun G kG => ?_) fun G y a' k' c' N' st dG hsub rG flG wG => ?_
    · exact ⟨M, x, L, rfl, d44.keep kG, hNq', hNh', turn_keep t44 kG, q44.keep kG, rf44.keep kG, rg44.keep kG, fl, by omega⟩
    · refine ⟨N', y, _, rfl, dG, hsub _ hNq', fun q hq => hsub _ (hNh' q hq), turn_stp t44 hNh' st, q44.updM st.up fun hn => hn hNq', ?_, ?_, flG, by omega⟩
      · unfold setL; rw [if_pos rfl]; exact rG
      · unfold setL; rw [if_neg (Ne.symm hne)]; exact (rg44.stp st).mono hsub
  · refine step_law (c := k27) (K := fun n63 b kb' cb G => ∃ (N' : Nat → Prop) (x' : D) (L' : Str → List Str), n63 = 0 ∧ DN N' d x' G ∧ N' h10.size ∧ (∀ q, q < h.size → N' q) ∧ Turn h G ∧ PagerAt G h10.size d ng ∧
      RowN N' G a22 (L nf).length (L' nf) ∧ RowN N' G b kb' (L' ng) ∧ Fls L' x' ∧ x'.waits.length ≤ 40 * (j + 1)) d44 hNq' q44 (by decide) rg44 fl hW pg44 slW bW44 hkW (by omega) (by omega) (fun G kG => ?_) fun G y a' k' c' N' st dG hsub rG flG wG => ?_
    · exact ⟨M, x, L, rfl, d44.keep kG, hNq', hNh', turn_keep t44 kG, q44.keep kG, rf44.keep kG, rg44.keep kG, fl, by omega⟩
    · refine ⟨N', y, _, rfl, dG, hsub _ hNq', fun q hq => hsub _ (hNh' q hq), turn_stp t44 hNh' st, q44.updM st.up fun hn => hn hNq', ?_, ?_, flG, by omega⟩
      · unfold setL; rw [if_neg hne]; exact (rf44.stp st).mono hsub
      · unfold setL; rw [if_pos rfl]; exact rG
  · rintro n78 a79 k80 k81 a82 k83 k84 G ⟨N', x', L', rfl, dG, hNq2, hNh2, tG, qG, rfG, rgG, flG, wG⟩
    refine br_intro (fun e => by simp at e) fun _ => ?_
    refine (open_quiet (nm := nf) dG (by decide) flG.q.down (flG.draft (by decide)) (flG.journal (by decide))).mono ?_
    rintro v h87 ⟨k87, z87, rfl, p87⟩
    have dN := dG.wide k87
    have hl1 := rfG.sl.1
    have hl2 := rgG.sl.1
    have ok' := dG.ok
    have b1 := pgs_le ok' nf
    have b2 := pgs_le ok' ng
    rw [flG.pages nf (by decide)] at b1
    rw [flG.pages ng (by decide)] at b2
    refine ⟨_, _, rfl, br_intro (fun _ => ?_) fun e => by simp at e⟩
    refine (has_spec' p87 dN flG.q.down (rfG.keep k87).sl (by omega)).mono ?_
    rintro v h91 ⟨k91, rfl⟩
    rw [flG.pages nf (by decide), decide_eq_true rfl]
    refine ⟨_, rfl, br_intro (fun _ => ?_) fun e => by cases e⟩
    have kG91 := k87.trans (k91.mono k87.size)
    refine (has_spec' (qG.keep kG91) (dN.keep k91) flG.q.down (rgG.keep kG91).sl (by omega)).mono ?_
    rintro v h94 ⟨k94, rfl⟩
    rw [flG.pages ng (by decide), decide_eq_true rfl]
    have kk := k91.trans (k94.mono k91.size)
    have kG94 := k87.trans (kk.mono k87.size)
    refine ⟨_, rfl, br_intro (fun e => by cases e) fun _ => ?_⟩
    rw [wrap_i64 (by omega) (by omega)]
    exact ⟨⟨j + 1, G.size, Nw N' G h87, x', L', rfl, hlt, rfl, rfl, dN.keep kk, .inr ⟨Nat.le_refl _, by omega⟩, .inl hNq2, fun q hq => .inl (hNh2 q hq), turn_keep tG kG94, p87.keep kk, qG.keep kG94, (rfG.keep kG94).mono fun q hq => .inl hq, (rgG.keep kG94).mono fun q hq => .inl hq, flG, wG⟩, by dsimp only; omega⟩
end Go.Proofs.Ytembbemljejjbaa
end

section
set_option linter.unusedVariables false
set_option linter.unusedSimpArgs false
set_option maxRecDepth 100000
namespace Go.Proofs.Ytembbemljejjbaa
open Go Go.Vc Go.Proofs Go.Dk Go.Cd
open Go.Pg (SrtI Quiet Nx)

theorem keeps_commit {s : Str} (hs : s.size ≤ 512) : Pg.wants (pgs (Dk.new 20).now nf).length (Dk.free (Dk.new 20)) [(0, s)] = 0 := by
  have e1 : (pgs (Dk.new 20).now nf).length = 0 := rfl
  have e2 : Dk.free (Dk.new 20) = 20 := by decide
  rw [e1, e2]
  have hz : ∀ q ∈ ([(0, s)] : Pg.Rw), q.1 < 9223372036854775808 ∧ q.2.size ≤ 512 := fun q hq => by
    rw [List.mem_singleton.1 hq]; exact ⟨by show (0 : Int) < _; omega, hs⟩
  have hp := nparts_le (W := [(0, s)]) hz (by show (1 : Nat) ≤ _; omega)
  have hp : Pg.nparts (Pg.frameW [(0, s)]) ≤ 5 := hp
  unfold Pg.wants
  have a1 : ([((0 : Int), s)].any fun p => decide (512 < p.2.size)) = false := by simp; omega
  have a2 : Pg.seqB 0 [((0 : Int), s)] = true := rfl
  have a3 : Pg.newN 0 [((0 : Int), s)] = 1 := rfl
  rw [a1, a2, a3, if_neg (by decide), if_neg (by decide), if_neg (by simp), if_neg (by omega)]
set_option maxHeartbeats 4000000 in
theorem pgkeeps_spec {h : Heap} {A : Option Addr} {n c : Nat} {bs : List UInt8} (hs : Sl ByteE h A n bs) (hn : n ≤ 9223372036854775807) :
    HC Try.prog 11 #[.slice A n c] h fun v h' => Keep h.size h h' ∧ v = .bool true := by
  refine hc_keep ?_
  refine HC_of_vc (args := [.slice A n c]) (base := 89) (cuts := []) (bigs := []) hm Try.func11 ?_
  rw [vcPgKeeps]
  have hl := hs.1
  refine (pgalive_spec).mono ?_
  rintro v h1 ⟨k1, rfl⟩
  refine ⟨_, rfl, br_intro (fun e => by cases e) fun _ => br_intro (fun _ => ⟨turn_keep (Turn.refl h) k1, rfl⟩) fun e => ?_⟩
  have e := of_decide_eq_false e
  have hn5 : n ≤ 512 := by omega
  have z1 := k1.size
  refine svc_empty_of app_b fun o0 => ⟨_, _, _, rfl, ?_⟩
  have kp := keep_push h1 (.cells #[] 5 (0, 0))
  refine svc_append app_b o0 kp.size ((hs.keep k1).keep kp) (by omega) fun aM cM h9 o9 u9 b9 => ⟨_, _, _, rfl, ?_⟩
  have k9 : Keep h1.size h1 h9 := kp.trans (u9.keep kp.size fun q hq => (o0.block q hq).1)
  have kh9 := k1.trans (k9.mono z1)
  rw [List.nil_append] at o9
  rw [Nat.zero_add] at o9 ⊢
  have z9 := k9.size
  generalize hhm : Array.push h9 (Obj.map (Array.mk []) 0) = h10
  have m10 : MapAt Mi h10 h9.size [] := by rw [← hhm]; exact MapAt.new Mi h9
  have k10 : Keep h9.size h9 h10 := by rw [← hhm]; exact keep_push h9 _
  have z10 : h10.size = h9.size + 1 := by rw [← hhm]; simp
  obtain ⟨s, hsb⟩ : ∃ s : Str, s = ⟨bs.toArray⟩ := ⟨_, rfl⟩
  have hss : s.size = n := by rw [hsb, mk_size]; exact hl
  have hbs : bytesL s = bs := by rw [hsb, bytesL_mk]
  refine svc_mapUpdate (M := Mi) (k := 0) (v := ⟨aM, n, cM, s⟩) m10 fun h14 z14 u14 m14 => ?_
  have k914 : Keep h9.size h9 h14 := k10.trans (u14.keep (by omega) fun i e => by omega)
  have o14 := o9.upd (k914.upd fun _ => False) fun _ _ h => h
  refine (St.new (Keep.refl _ h14) 20).mono ?_
  rintro v h16 ⟨d, rfl, st16⟩
  have d16 := st16.frame.dn
  have kb := st16.frame.base
  have zb := kb.size
  refine ⟨_, rfl, (open_quiet (nm := nf) d16 (by decide) rfl rfl rfl).mono ?_⟩
  rintro v h19 ⟨k19, z19, rfl, p19⟩
  have d19 := d16.wide k19
  have k1419 := kb.trans (k19.mono kb.size)
  have o19 := o14.upd (k1419.upd fun _ => False) fun _ _ h => h
  have m19 := m14.keep k1419
  have hblk := fun q hq => o9.block q hq
  have hin : ∀ q, q < h14.size → Nw (fun q => q < h14.size ∨ False) h16 h19 q := fun q hq => .inl (.inl hq)
  have hinP : Nw (fun q => q < h14.size ∨ False) h16 h19 h16.size := .inr ⟨Nat.le_refl _, by omega⟩
  generalize Nw (fun q => q < h14.size ∨ False) h16 h19 = M at d19 hin hinP
  have pg : PgsAt M h19 h9.size [(0, ⟨aM, n, cM, s⟩)] := ⟨m19, hin _ (by omega), fun q hq => by
      rw [List.mem_singleton.1 hq]
      exact ⟨by rw [hbs]; exact o19.sl, o19.2.1, fun _ q hq => hin _ (by have := (hblk q hq).2; omega)⟩, fun k hk => by
      simp only [mKeys, List.map_cons, List.map_nil, List.mem_cons, List.not_mem_nil, or_false] at hk
      subst hk
      constructor <;> decide, by show (1 : Nat) ≤ _; omega⟩
  have hW : Rows [((0 : Int), (⟨aM, n, cM, s⟩ : Bv))] [(0, s)] := ⟨List.Perm.refl _, by simp⟩
  refine ⟨_, _, rfl, (commit_law p19 hinP d19 pg hW (new_quiet 20) rfl rfl (by show (1 : Nat) ≤ _; omega) (by show (0 : Nat) ≤ _; omega)).mono ?_⟩
  rintro v h23 ⟨y, st, rfl, _, y1, _⟩
  have hw0 := keeps_commit (s := s) (by omega)
  rw [hw0]
  have cm := y1 hw0
  have hpages : pgs y.now nf = [pad s] := by rw [cm.pages]; rfl
  have hN : ∀ q, M q → ¬ ¬ M q := fun q hq hn => hn hq
  have m23 := m19.updM st.up (hN _ (hin _ (by omega)))
  have o23 := o19.updM st.up fun b hb => hN _ (hin _ (by have := (hblk b hb).2; omega))
  have p23 := p19.updM st.up (hN _ hinP)
  have t14 : Turn h h14 := turn_keep (turn_keep (Turn.refl h) kh9) k914
  have t23 : Turn h h23 := turn_stp (turn_keep t14 k1419) (fun q hq => hin _ (by have := t14.size; omega)) st
  have hsT : ∀ {G : Heap}, Turn h G → Sl ByteE G A n bs := fun t => hs.updM (S := fun _ => False) t.m fun _ _ _ => id
  have hnt : ¬ y.down = true := by rw [cm.q.down]; decide
  have hrd : Dk.read y nf 0 = (pad s, 0) := by
    unfold Dk.read
    rw [if_neg hnt, hpages, if_neg (by simp)]; rfl
  have hps : (pad s).size = 512 := by
    show (s.data ++ Array.replicate (512 - s.size) 0).size = 512
    rw [Array.size_append, Array.size_replicate]
    have : s.data.size = s.size := rfl
    omega
  refine ⟨_, rfl, (1 : Int), fun _ => reads_len_map m23, _, fun _ => reads_string (c := cM) undBs undB undS o23.sl, _, fun _ => reads_string (c := c) undBs undB undS (hsT t23), br_intro (fun e => by simp at e) fun _ => ?_⟩
  have zt := t23.size
  have hpM : ∀ q, blk aM q → q ≠ h16.size := fun q hq e => by have := (hblk q hq).2; omega
  refine ⟨fun n30 H => ∃ (j : Nat) (xs : List UInt8), n30 = j ∧ j ≤ n ∧ Vc.Own ByteE 5 h1.size H aM n cM xs ∧ DN M d y H ∧ PagerAt H h16.size d nf ∧ Turn h H, fun n30 _ => n - n30.toNat, ⟨0, bs, rfl, Nat.zero_le _, o23, st.dn, p23, t23⟩, ?_⟩
  rintro n30 H ⟨j, xs, rfl, hj, oH, dH, pH, tH⟩
  refine br_intro (fun e2 => ?_) fun e2 => ?_
  · have e2 := of_decide_eq_true e2
    have hxl := oH.1
    obtain ⟨p32, ea, hc⟩ := oH.sl.byte (j := j) (by omega)
    generalize xs[j]'(by omega) = b at hc
    refine ⟨p32, ⟨ea, by omega, by omega⟩, _, reads_load (by kernel_rfl) (by rw [Int.toNat_natCast, Nat.mul_one]; exact hc), p32, ⟨ea, by omega, by omega⟩, ?_⟩
    rw [u8_b8]
    obtain ⟨p', ep, sv⟩ := svc_own_set (t := 5) (i := j) (x := b8 ((b.toNat : Int) + 1)) (v := .int .u8 ((b8 ((b.toNat : Int) + 1)).toNat : Nat)) (K := fun _ G => Vc.Own ByteE 5 h1.size G aM n cM (xs.set j (b8 ((b.toNat : Int) + 1))) ∧ Upd (blk aM) H G) oH (by omega) (by kernel_rfl) rfl
      fun G oG uG => ⟨oG, uG⟩
    rw [ea] at ep
    cases ep
    refine svc_mono sv ?_
    rintro _ G ⟨oG, uG⟩
    rw [wrap_i64 (by omega) (by omega)]
    refine ⟨⟨j + 1, _, rfl, by omega, oG, dH.keepM uG.m fun q _ hq => hin q (by have := (hblk q hq).2; omega), pH.updM uG.m fun hb => hpM _ hb rfl, ?_⟩, by dsimp only; omega⟩
    exact ((tH.m (S := fun _ => False)).trans' uG.m fun q hq hb => by have := (hblk q hb).1; omega).turn fun _ _ => id
  refine (pread_spec pH dH 0).mono ?_
  rw [hrd]
  rintro v h38 ⟨k38, b, m, rfl, hm0, hb0, hcell⟩
  have hm5 : m = 512 := hm0.trans hps
  subst hm5
  have hc38 := hcell (by decide)
  have o38 : Vc.Own ByteE 96 H.size h38 (some ⟨b, 0, none⟩) 512 512 (bytesL (pad s)) := by
    refine ⟨by rw [bytesL_len, hps], Nat.le_refl _, .inr ⟨b, _, rfl, hb0, hc38, ?_, [], ?_⟩⟩
    · rw [List.size_toArray, List.length_map, bytesL_len, hps]; rfl
    · rw [List.append_nil]
      generalize bytesL (pad s) = l
      induction l with
      | nil => rfl
      | cons a l ih => rw [List.flatMap_cons, ← ih]; rfl
  refine ⟨_, _, _, _, rfl, ?_⟩
  rw [if_neg (by decide)]
  refine ⟨fun n45 G => ∃ (j : Nat) (xs : List UInt8), n45 = j ∧ j ≤ 512 ∧ Vc.Own ByteE 96 H.size G (some ⟨b, 0, none⟩) 512 512 xs ∧ Keep H.size H G, fun n45 _ => 512 - n45.toNat, ⟨0, _, rfl, Nat.zero_le _, o38, k38⟩, ?_⟩
  rintro n45 G ⟨j2, xs2, rfl, hj2, oG, kG⟩
  refine br_intro (fun e3 => ?_) fun e3 => ?_
  · have e3 := of_decide_eq_true e3
    have hxl := oG.1
    obtain ⟨p32, ea, hc⟩ := oG.sl.byte (j := j2) (by omega)
    generalize xs2[j2]'(by omega) = b2 at hc
    refine ⟨p32, ⟨ea, by omega, by omega⟩, _, reads_load (by kernel_rfl) (by rw [Int.toNat_natCast, Nat.mul_one]; exact hc), p32, ⟨ea, by omega, by omega⟩, ?_⟩
    rw [u8_b8]
    obtain ⟨p', ep, sv⟩ := svc_own_set (t := 5) (i := j2) (x := b8 ((b2.toNat : Int) + 1)) (v := .int .u8 ((b8 ((b2.toNat : Int) + 1)).toNat : Nat)) (K := fun _ F => Vc.Own ByteE 96 H.size F (some ⟨b, 0, none⟩) 512 512 (xs2.set j2 (b8 ((b2.toNat : Int) + 1))) ∧ Upd (blk (some ⟨b, 0, none⟩)) G F) oG (by omega) (by kernel_rfl) rfl
      fun F oF uF => ⟨oF, uF⟩
    rw [ea] at ep
    cases ep
    refine svc_mono sv ?_
    rintro _ F ⟨oF, uF⟩
    rw [wrap_i64 (by omega) (by omega)]
    exact ⟨⟨j2 + 1, _, rfl, by omega, oF, kG.trans (uF.keep kG.size fun q hq => (oG.block q hq).1)⟩, by dsimp only; omega⟩
  refine (pread_spec (pH.keep kG) (dH.keep kG) 0).mono ?_
  rw [hrd]
  rintro v h53 ⟨k53, b', m', rfl, hm0', _, hcell'⟩
  have hsl := page_sl hm0' hcell'
  have kH53 := kG.trans (k53.mono kG.size)
  have t53 := turn_keep tH kH53
  refine ⟨_, _, _, _, rfl, fun g => Keep h53.size h53 g, Keep.refl _ _, _, fun _ g kg => reads_string (c := m') undBs undB undS (hsl.keep kg), _, fun _ => reads_string (c := c) undBs undB undS (hsT t53), br_intro (fun _ => ?_) fun e => by simp at e⟩
  rw [← hsb]
  refine (filled_spec s (by omega)).mono ?_
  rintro v h63 ⟨k63, rfl⟩
  refine ⟨_, rfl, k63, turn_keep t53 k63, ?_⟩
  rw [bytes_back]
  simp
end Go.Proofs.Ytembbemljejjbaa
end
