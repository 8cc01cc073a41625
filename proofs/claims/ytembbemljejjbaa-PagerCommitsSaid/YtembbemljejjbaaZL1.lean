/-
  Texts of this seat, laid one behind the other: PgG1. Conditions: none.
-/
import Derived.Test.YtembbemljejjbaaZF
section
set_option linter.unusedVariables false
set_option linter.unusedSimpArgs false
set_option maxRecDepth 100000
namespace Go.Proofs.Ytembbemljejjbaa
open Go Go.Vc Go.Proofs Go.Dk Go.Cd
open Go.Pg (SrtI Quiet Nx)

/-- a row of texts in blocks of N. -/
structure RowN (N : Nat → Prop) (h : Heap) (a : Option Addr) (k : Nat) (l : List Str) : Prop where
  sl : Sl StrE h a k l
  n : k ≠ 0 → ∀ q, blk a q → N q
theorem RowN.nil (N : Nat → Prop) (h : Heap) (a : Option Addr) : RowN N h a 0 [] := ⟨Sl.nil _ _, fun h => absurd rfl h⟩
section
variable {h h' : Heap} {N N' S : Nat → Prop} {a : Option Addr} {k : Nat} {l : List Str}
theorem RowN.updM (hr : RowN N h a k l) (u : UpdM S h h') (hs : ∀ q, N q → ¬ S q) : RowN N h' a k l := ⟨hr.sl.updM u fun hn q hq => hs q (hr.n hn q hq), hr.n⟩
theorem RowN.keep (hr : RowN N h a k l) (kk : Keep h.size h h') : RowN N h' a k l := hr.updM (S := fun _ => False) kk.m fun _ _ => id
theorem RowN.mono (hr : RowN N h a k l) (hs : ∀ q, N q → N' q) : RowN N' h a k l := ⟨hr.sl, fun hn q hq => hs q (hr.n hn q hq)⟩
theorem RowN.stp {d : Nat} {x' : D} (hr : RowN N h a k l) (st : Stp N d x' h h') : RowN N h' a k l := hr.updM st.up fun q hq hn => hn hq
end
theorem turn_stp {h0 h h' : Heap} {N : Nat → Prop} {d : Nat} {x' : D} (t : Turn h0 h) (hN : ∀ q, q < h0.size → N q) (st : Stp N d x' h h') : Turn h0 h' :=
  ((t.m (S := fun _ => False)).trans' st.up fun q hq hn => hn (hN q hq)).turn fun _ _ => id
theorem turn_keep {h0 h h' : Heap} (t : Turn h0 h) (k : Keep h.size h h') : Turn h0 h' := ((t.m (S := fun _ => False)).trans k.m).turn fun _ _ => id
/-- a disk with one pager's file. -/
structure One (room : Nat) (l : List Str) (x : D) : Prop where
  q : Quiet x
  room : x.room = room
  pages : pgs x.now nf = l
  draft : mGet x.now (Pg.nmT nf) = none
  journal : mGet x.now (Pg.nmJ nf) = none
  tot : tot x.now = l.length
theorem One.cm {room : Nat} {l : List Str} {x y : D} {W : Pg.Rw} (o : One room l x) (c : Cm x y nf W) : One room (Pg.laidL W l) y := by
  obtain ⟨n1, n2, _⟩ := Pg.nm_ne nf
  have h1 := c.tot
  rw [o.pages, o.tot] at h1
  exact ⟨c.q, c.room.trans o.room, by rw [c.pages, o.pages], by rw [c.other _ n1]; exact o.draft, by rw [c.other _ n2]; exact o.journal, by omega⟩
theorem One.free {room : Nat} {l : List Str} {x : D} (o : One room l x) : Dk.free x = (room : Int) - l.length := by unfold Dk.free; rw [o.room, o.tot]
theorem One.new {room : Int} (h0 : 0 ≤ room) (h1 : room ≤ 60) : One room.toNat [] (Dk.new room) :=
  ⟨new_quiet _, by show (min (max room 0) 4096).toNat = _; omega, rfl, rfl, rfl, rfl⟩
set_option maxHeartbeats 4000000 in
theorem commits_spec {h : Heap} {A : Option Addr} {n c : Nat} {room : Int} {ss : List Sp} (hs : StepsAt h A n ss) (hn : n ≤ 9223372036854775807) (hb : ∀ s ∈ ss, s.n ≤ 9223372036854775807) :
    HC Try.prog 10 #[.int .i64 room, .slice A n c] h fun v h' => Keep h.size h h' ∧ v = .bool true := by
  refine hc_keep ?_
  refine HC_of_vc (args := [.int .i64 room, .slice A n c]) (base := 104) (cuts := [19]) (bigs := []) hm Try.func10 ?_
  rw [vcPgCommits]
  have hl := hs.sl.1
  refine (pgalive_spec).mono ?_
  rintro v h1 ⟨k1, rfl⟩
  have t1 : Turn h h1 := turn_keep (Turn.refl h) k1
  refine ⟨_, rfl, br_intro (fun e => by cases e) fun _ => ((pgreat_spec (hs.keep k1) hn hb).mono ?_)⟩
  rintro v h4 ⟨k4, b5, rfl, hg⟩
  have k14 := k1.trans (k4.mono k1.size)
  have t4 : Turn h h4 := turn_keep (Turn.refl h) k14
  refine ⟨_, rfl, br_intro (fun _ => ⟨t4, rfl⟩) fun e => ?_⟩
  simp only [Bool.or_eq_false_iff, decide_eq_false_iff_not] at e
  obtain ⟨⟨rfl, r0⟩, r1⟩ := e
  obtain ⟨hn12, hs8⟩ := hg rfl
  refine (St.new (Keep.refl _ h4) room).mono ?_
  rintro v h7 ⟨d, rfl, st7⟩
  have d7 := st7.frame.dn
  have kb := st7.frame.base
  have o7 := One.new (room := room) (by omega) (by omega)
  refine ⟨_, rfl, (open_quiet (nm := nf) d7 (by decide) rfl rfl rfl).mono ?_⟩
  rintro v h10 ⟨k10, z10, rfl, p10⟩
  refine ⟨_, _, rfl, br_intro (fun e => by simp at e) fun _ => ?_⟩
  have zb := kb.size
  refine ⟨fun _ a k c' n19 H => ∃ (j : Nat) (N : Nat → Prop) (x : D) (l : List Str), n19 = j ∧ j ≤ n ∧ DN N d x H ∧ N h7.size ∧ (∀ q, q < h.size → N q) ∧ Turn h H ∧ PagerAt H h7.size d nf ∧ RowN N H a k l ∧ One room.toNat l x ∧ x.waits.length ≤ 40 * j ∧ l.length ≤ 60,
    fun _ _ _ _ n19 _ => n - n19.toNat, ⟨0, Nw (fun q => q < h4.size ∨ False) h7 h10, _, [], rfl, Nat.zero_le _, d7.wide k10, .inr ⟨Nat.le_refl _, by omega⟩, fun q hq => .inl (.inl (Nat.lt_of_lt_of_le hq k14.size)),
      turn_keep (turn_keep t4 kb) k10, p10, RowN.nil _ _ _, o7, Nat.zero_le _, Nat.zero_le _⟩, ?_⟩
  rintro b15 a16 k17 k18 n19 H ⟨j, N, x, l, rfl, hj, dH, hNp, hNh, tH, pH, rH, one, hwt, hl60⟩
  have hlk := rH.sl.1
  subst hlk
  refine br_intro (fun e => ?_) fun e => ?_
  · have e := of_decide_eq_true e
    have hlt : j < n := by omega
    have hq : ss[j]? = some (ss[j]'(by omega)) := List.getElem?_eq_getElem (by omega)
    have hmem := List.getElem_mem (by omega : j < ss.length)
    generalize ss[j]'(by omega) = s at hq hmem
    have sH := hs.turn tH
    have so := sH.each s hmem
    obtain ⟨p21, ea, rd⟩ := sp_at sH.sl hq
    refine ⟨p21, ⟨ea, by omega, by omega⟩, _, _, _, _, _, rd, svc_sp rfl ?_⟩
    have bx := push_at H (spBox s)
    have kx := keep_push H (spBox s)
    generalize H.push (spBox s) = H2 at bx kx
    refine ⟨_, _, _, _, _, sp_all bx, (writes_spec (so.keep kx) (by have := hs8 s hmem; omega)).mono ?_⟩
    rintro v h35 ⟨k35, r, aW, kW, cW, ml, W, rfl, hW, hpg, slW, bW, hkW, hml⟩
    have kH35 := kx.trans (k35.mono kx.size)
    have d35 := dH.keep kH35
    refine ⟨_, _, _, _, rfl, (d35.free).mono ?_⟩
    rintro v h41 ⟨k41, rfl⟩
    have kH41 := kH35.trans (k41.mono kH35.size)
    have hs8' := hs8 s hmem
    have hWl := hW.len
    have hfr := one.free
    refine ⟨_, rfl, (wants_spec (slW.keep k41) (by have := slW.1; omega) (by omega) (by omega) hkW).mono ?_⟩
    rintro v h44 ⟨k44, rfl⟩
    have kH44 := kH41.trans (k44.mono kH41.size)
    have d44 := dH.wide kH44
    have z35 := k35.size
    have zx := kx.size
    have z44 := (k41.trans (k44.mono k41.size)).size
    have pg44 : PgsAt (Nw N H h44) h44 r ml := ((hpg.keep k41).keep k44).mono fun q hq => .inr ⟨by omega, by omega⟩
    refine ⟨_, rfl, (commit_law (pH.keep kH44) (.inl hNp) d44 pg44 hW one.q one.draft one.journal (by omega) (by omega)).mono ?_⟩
    rintro v h47 ⟨y, st47, rfl, y0, y1, yw⟩
    rw [one.pages] at y0 y1
    refine ⟨_, rfl, ?_⟩
    rw [one.pages]
    have p47 := (pH.keep kH44).updM st47.up fun hn => hn (.inl hNp)
    have r47 : RowN (Nw N H h44) h47 a16 l.length l := ((rH.keep kH44).mono fun q hq => .inl hq).stp st47
    have t47 := turn_stp (turn_keep tH kH44) (fun q hq => .inl (hNh q hq)) st47
    refine br_intro (fun e2 => by simp at e2) fun _ => ⟨fun a k c' G => ∃ (N' : Nat → Prop) (x' : D) (l' : List Str), DN N' d x' G ∧ N' h7.size ∧ (∀ q, q < h.size → N' q) ∧ Turn h G ∧ PagerAt G h7.size d nf ∧ RowN N' G a k l' ∧ One room.toNat l' x' ∧ x'.waits.length ≤ 40 * (j + 1), ?_, ?_⟩
    · refine br_intro (fun e3 => ?_) fun e3 => ?_
      · have e3 : Pg.wants l.length (Dk.free x) W = 0 := by simpa using e3
        have cm := y1 e3
        have sl47 := ((slW.keep k41).keep k44).updM st47.up fun _ q hq hn => hn (.inr ⟨by have := (bW q hq).1; omega, by have := (bW q hq).2; omega⟩)
        have hsq := cm.seq
        rw [one.pages] at hsq
        refine (laid_spec r47.sl sl47 (by omega) (by have := slW.1; omega) cm.size hsq).mono ?_
        rintro v h51 ⟨k51, a, k, c', rfl, o51⟩
        refine ⟨_, _, _, rfl, Nw (Nw N H h44) h47 h51, y, _, st47.dn.wide k51, .inl (.inl hNp), fun q hq => .inl (.inl (hNh q hq)), turn_keep t47 k51, p47.keep k51, ⟨o51.sl, fun _ q hq => .inr (o51.block q hq)⟩, one.cm cm, by omega⟩
      · have e3 : Pg.wants l.length (Dk.free x) W ≠ 0 := by simpa using e3
        have hy := y0 e3
        rw [hy] at st47
        exact ⟨Nw N H h44, x, l, st47.dn, .inl hNp, fun q hq => .inl (hNh q hq), t47, p47, r47, one, by omega⟩
    · rintro a55 k56 k57 G ⟨N', x', l', dG, hNp', hNh', tG, pG, rG, one', hwt'⟩
      have hlk' := rG.sl.1
      have okG := dG.ok
      have hl60' : l'.length ≤ 60 := by
        have := okG.tot
        rw [one'.tot, one'.room] at this; omega
      refine (has_spec' pG dG one'.q.down rG.sl (by omega)).mono ?_
      rintro v h60 ⟨k60, rfl⟩
      rw [one'.pages, decide_eq_true rfl]
      refine ⟨_, rfl, br_intro (fun _ => ?_) fun e => by cases e⟩
      refine ((dG.keep k60).free).mono ?_
      rintro v h63 ⟨k63, rfl⟩
      have kG63 := k60.trans (k63.mono k60.size)
      have hfr' := one'.free
      have e4 : IntKind.i64.wrap (room - (k56 : Int)) = Dk.free x' := by rw [wrap_i64 (by omega) (by omega), hfr']; omega
      refine ⟨_, rfl, ?_⟩
      rw [e4]
      refine br_intro (fun e5 => by simp at e5) fun _ => ?_
      rw [wrap_i64 (by omega) (by omega)]
      exact ⟨⟨j + 1, N', x', l', rfl, hlt, dG.keep kG63, hNp', hNh', turn_keep tG kG63, pG.keep kG63, rG.keep kG63, one', hwt', hl60'⟩, by dsimp only; omega⟩
  · refine (pread_nil 0).mono ?_
    rintro v h66 ⟨rfl, rfl⟩
    refine ⟨_, _, _, _, rfl, (open_nil).mono ?_⟩
    rintro v h72 ⟨rfl, rfl⟩
    refine ⟨_, _, rfl, (commit_nil).mono ?_⟩
    rintro v h76 ⟨t76, rfl⟩
    refine ⟨_, rfl, br_intro (fun _ => ?_) fun e => by simp at e⟩
    refine (pcount_nil).mono ?_
    rintro v h79 ⟨rfl, rfl⟩
    exact ⟨_, rfl, tH.trans t76, rfl⟩
end Go.Proofs.Ytembbemljejjbaa
end
