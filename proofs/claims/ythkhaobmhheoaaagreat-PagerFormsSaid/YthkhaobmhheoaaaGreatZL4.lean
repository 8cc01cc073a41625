/-
  Texts of this seat, laid one behind the other: DkNm PgG4. Conditions: none.
-/
import Derived.Test.YthkhaobmhheoaaaGreatZDN
import Derived.Test.YthkhaobmhheoaaaGreatZD
import Derived.Test.YthkhaobmhheoaaaGreatZG
import Derived.Test.YthkhaobmhheoaaaGreatZE
import Derived.Test.YthkhaobmhheoaaaGreatZU
import Derived.Test.YthkhaobmhheoaaaGreatZF
import Derived.Test.YthkhaobmhheoaaaGreatZP2
import Derived.Test.YthkhaobmhheoaaaGreatZH2
section
set_option linter.unusedVariables false
set_option linter.unusedSimpArgs false
set_option maxRecDepth 100000
namespace Go.Proofs.YthkhaobmhheoaaaGreat
open Go Go.Vc Go.Proofs Go.Dk

theorem len_names1 (F : Fs) : (names F).length = F.length := by simp [mKeys]
theorem len_sub1 : ∀ {a b : List Str}, a.Nodup → (∀ n, n ∈ a → n ∈ b) → a.length ≤ b.length
  | [], b, _, _ => Nat.zero_le _
  | n :: a, b, hn, hs => by
    have h1 := List.nodup_cons.1 hn
    have h2 : n ∈ b := hs n List.mem_cons_self
    have := len_sub1 (a := a) (b := b.filter fun q => decide (q ≠ n)) h1.2 fun q hq => List.mem_filter.2 ⟨hs q (List.mem_cons_of_mem _ hq), decide_eq_true fun e => h1.1 (e ▸ hq)⟩
    have h3 : (b.filter fun q => decide (q ≠ n)).length < b.length := List.length_filter_lt_length_iff_exists.2 ⟨n, h2, by simp⟩
    simp only [List.length_cons]; omega
section
variable {h : Heap} {d : Nat} {x : D} {O N : Nat → Prop}
theorem dnames_spec (hd : DiskAt h d x O) (hn : x.now.length ≤ 1073741824) (hs : ∀ n, n ∈ names x.now → n.size ≤ 9223372036854775807) :
    HC Tryz.prog 20 #[.pointer (some ⟨d, 0, none⟩)] h fun v h' => Keep h.size h h' ∧ ∃ a k c, v = .slice a k c ∧ Sl StrE h' a k (namesD x) := by
  have hr := ready_spec hd
  have ok := hd.ok
  obtain ⟨hO, c1, p1, c2, p2, A, m, c, hp, hb⟩ := hd
  obtain ⟨mc, mp, hc, hmp, hl⟩ := hp.now
  refine HC_of_vc (args := [.pointer (some ⟨d, 0, none⟩)]) (base := 13) (cuts := []) (bigs := []) hm Tryz.func20 ?_
  rw [vcNames]
  refine hr.mono ?_
  rintro v h1 ⟨rfl, rfl⟩
  have hkeys : ∀ n, n ∈ mKeys mc ↔ n ∈ names x.now := fun n => by
    have h1 := hl.count n
    constructor
    · intro hm
      by_cases h0 : n ∈ names x.now
      · exact h0
      · rw [mGet_none.2 h0] at h1; exact absurd hm (mGet_none.1 h1)
    · intro hm
      by_cases h0 : n ∈ mKeys mc
      · exact h0
      · rw [mGet_none.2 h0] at h1
        cases h2 : mGet x.now n with
        | none => exact absurd hm (mGet_none.1 h2)
        | some l => rw [h2] at h1; cases h1
  have hnd : (mKeys mc).Nodup := by obtain ⟨_, _, _, _, h, _⟩ := hc; exact h
  have hlen : mc.length ≤ x.now.length := by
    have := len_sub1 hnd fun n hn => (hkeys n).1 hn
    rw [len_names1] at this
    simpa [mKeys] using this
  refine ⟨_, rfl, br_intro (fun e => ?_) fun e => ⟨_, rfl, _, reads_load scMc (cell_cells0 hp.box rfl), (sortedKeys hc (by omega) fun s hs' => hs s ((hkeys s).1 hs')).mono ?_⟩⟩
  · have hdn : x.down = true := by cases hdn : x.down <;> simp [hdn] at e ⊢
    exact ⟨Keep.refl _ _, _, _, _, rfl, by unfold namesD; rw [if_pos hdn]; exact Sl.nil _ _⟩
  · have hdn : x.down = false := by cases hdn : x.down <;> simp [hdn] at e ⊢
    rintro v h6 ⟨k6, hc6⟩
    refine ⟨_, rfl, hc6.mono ?_⟩
    rintro v h9 ⟨k9, a, c', K, hK, hKm, hKl, rfl, hsl⟩
    have hKn : K = names x.now := srt_ext hK ok.now fun q => (hKm q).trans (hkeys q)
    refine ⟨_, _, _, rfl, k6.trans (k9.mono k6.size), _, _, _, rfl, ?_⟩
    unfold namesD
    rw [if_neg (by rw [hdn]; decide), ← hKn]; exact hsl
theorem DN.names (hs : DN N d x h) (hn : x.now.length ≤ 1073741824) (hb : ∀ n, n ∈ names x.now → n.size ≤ 9223372036854775807) : HC Tryz.prog 20 #[.pointer (some ⟨d, 0, none⟩)] h fun v h' => Keep h.size h h' ∧ ∃ a k c, v = .slice a k c ∧ Sl StrE h' a k (namesD x) := by
  obtain ⟨O, h1, _, _⟩ := hs
  exact dnames_spec h1 hn hb
end
end Go.Proofs.YthkhaobmhheoaaaGreat
end

section
set_option linter.unusedVariables false
set_option linter.unusedSimpArgs false
set_option maxRecDepth 100000
namespace Go.Proofs.YthkhaobmhheoaaaGreat
open Go Go.Vc Go.Proofs Go.Dk Go.Cd
open Go.Pg (SrtI Quiet Mid Job)

theorem scU64 : scT Tryz.prog 45 = true := by kernel_rfl
theorem RowN.back {N : Nat → Prop} {h h' : Heap} {a : Option Addr} {k : Nat} {l : List Str} {d : Nat} {y : D} (hr : RowN N h a k l) (st : Stp N d y h h') : RowN N h' a k l := hr.stp st
theorem box_stp {N : Nat → Prop} {h h' : Heap} {d b : Nat} {y : D} {cs : Array Value} {t : TypeId} {f : Nat × Nat} (hb : h[b]? = some (.cells cs t f)) (hN : N b) (st : Stp N d y h h') : h'[b]? = some (.cells cs t f) := st.up.cells hb fun hn => hn hN
/-- Open in a law. -/
theorem open_law {h : Heap} {d : Nat} {nm : Str} {N : Nat → Prop} {x : D} (hd : DN N d x h) (hnm : nm.size ≤ 1073741824) (hw : x.waits.length ≤ 100000000)
    (hj : ∀ y, (y = x ∨ y = (remove x (Pg.nmT nm)).2) → jrnl ((pgs y.now (Pg.nmJ nm)).flatMap bytesL) = none ∨ ∃ W, jrnl ((pgs y.now (Pg.nmJ nm)).flatMap bytesL) = some W ∧ SrtI (W.map (·.1))) :
    HC Tryz.prog 18 #[.pointer (some ⟨d, 0, none⟩), .string nm] h fun v h' => ∃ M : Nat → Prop, DN M d (Pg.opn nm x).2 h' ∧ (∀ q, N q → M q) ∧ UpdM (fun q => ¬ N q) h h' ∧ M h.size ∧ PagerAt h' h.size d nm ∧ v = opAns (Pg.opn nm x).1 h.size := by
  refine (open_spec hd hnm hw hj).mono ?_
  rintro v h' ⟨st, rfl⟩
  have kp := keep_push h (Obj.cells #[Value.pointer (some (Addr.mk d 0 none)), Value.string nm] 108 (0, 0))
  have hM : Nw N h (h.push (Obj.cells #[Value.pointer (some (Addr.mk d 0 none)), Value.string nm] 108 (0, 0))) h.size := .inr ⟨Nat.le_refl _, by simp⟩
  have pa : PagerAt (h.push (Obj.cells #[Value.pointer (some (Addr.mk d 0 none)), Value.string nm] 108 (0, 0))) h.size d nm := ⟨push_at _ _, hnm⟩
  exact ⟨_, st.dn, fun q hq => .inl hq, (st.back kp).up, hM, pa.updM st.up fun hn => hn hM, rfl⟩
theorem ints_at {h : Heap} {B : Option Addr} {m k : Nat} {l : List Int} (hs : Sl (IntE .i64) h B m l) (hk : k < m) : ∃ p v, B = some p ∧ v ∈ l ∧ Reads Tryz.prog (Instr.loadAt 3 (.pointer (some (p.add (k * 1))))) h (.int .i64 v) := by
  have hl := hs.1
  obtain ⟨p, e, hc⟩ := hs.get (List.getElem?_eq_getElem (by omega : k < l.length))
  exact ⟨p, _, e, List.getElem_mem _, reads_load scI (hc 0 _ rfl)⟩
set_option maxHeartbeats 8000000 in
theorem loses_spec {h : Heap} {A B : Option Addr} {n c m dd : Nat} {ss : List Sp} {ks : List Int} (hs : StepsAt h A n ss) (hn : n ≤ 9223372036854775807) (hb : ∀ s ∈ ss, s.n ≤ 9223372036854775807)
    (hk : Sl (IntE .i64) h B m ks) (hkb : ∀ k ∈ ks, k ≤ 9223372036854775807) :
    HC Tryz.prog 4 #[.slice A n c, .slice B m dd] h fun v h' => Keep h.size h h' ∧ v = .bool true := by
  refine hc_keep ?_
  refine HC_of_vc (args := [.slice A n c, .slice B m dd]) (base := 148) (cuts := [28,36]) (bigs := []) hm Tryz.func4 ?_
  rw [vcPgLoses]
  have hl := hs.sl.1
  refine (pgalive_spec).mono ?_
  rintro v h1 ⟨k1, rfl⟩
  refine ⟨_, rfl, br_intro (fun e => by cases e) fun _ => ((pgreat_spec (hs.keep k1) hn hb).mono ?_)⟩
  rintro v h4 ⟨k4, b5, rfl, hg⟩
  have k14 := k1.trans (k4.mono k1.size)
  have t4 : Turn h h4 := turn_keep (Turn.refl h) k14
  refine ⟨_, rfl, br_intro (fun _ => ⟨t4, rfl⟩) fun e => ?_⟩
  simp only [Bool.or_eq_false_iff, decide_eq_false_iff_not] at e
  obtain ⟨rfl, hm20⟩ := e
  have hm20 : m ≤ 20 := by omega
  obtain ⟨hn12, hs8⟩ := hg rfl
  refine (St.new (Keep.refl _ h4) 200).mono ?_
  rintro v h7 ⟨d, rfl, st7⟩
  have d7 := st7.frame.dn
  have kb := st7.frame.base
  have zb := kb.size
  refine ⟨_, rfl, (open_quiet (nm := nf) d7 (by decide) rfl rfl rfl).mono ?_⟩
  rintro v h10 ⟨k10, z10, rfl, p10⟩
  refine ⟨_, _, rfl, br_intro (fun e => by simp at e) fun _ => ?_⟩
  refine ⟨fun _ ap a k c' n20 n21 H => ∃ (j kk pp : Nat) (N : Nat → Prop) (x : D) (P : List Str), n21 = j ∧ n20 = kk ∧ j ≤ n ∧ kk ≤ m + j ∧ ap = some ⟨pp, 0, none⟩ ∧ DN N d x H ∧ N pp ∧ (∀ q, q < h.size → N q) ∧ Turn h H ∧ PagerAt H pp d nf ∧ RowN N H a k P ∧
      x.room = 200 ∧ x.down = false ∧ Pg.Clean nf P x ∧ x.waits.length ≤ 60 * (j + kk),
    fun _ _ _ _ _ _ n21 _ => n - n21.toNat, ⟨0, 0, h7.size, Nw (fun q => q < h4.size ∨ False) h7 h10, _, [], rfl, rfl, Nat.zero_le _, Nat.zero_le _, rfl, d7.wide k10, .inr ⟨Nat.le_refl _, by omega⟩, fun q hq => .inl (.inl (Nat.lt_of_lt_of_le hq k14.size)),
      turn_keep (turn_keep t4 kb) k10, p10, RowN.nil _ _ _, rfl, rfl, ⟨⟨rfl, rfl, rfl, rfl, (fun w hw => by cases hw), (fun q l hq => by cases hq), (fun q l hq => by cases hq)⟩, rfl⟩, Nat.zero_le _⟩, ?_⟩
  rintro b15 a16 a17 k18 k19 n20 n21 H ⟨j, kk, pp, N, x, P, rfl, rfl, hj, hkk, rfl, dH, hNp, hNh, tH, pH, rH, xroom, xdn, xcl, hwt⟩
  have hlk := rH.sl.1
  subst hlk
  refine br_intro (fun e => ?_) fun e => ?_
  · have e := of_decide_eq_true e
    have hlt : j < n := by omega
    have hq : ss[j]? = some (ss[j]'(by omega)) := List.getElem?_eq_getElem (by omega)
    have hmem := List.getElem_mem (by omega : j < ss.length)
    generalize ss[j]'(by omega) = s at hq hmem
    have sH := hs.turn tH
    have so := sH.each s hmem
    obtain ⟨p21, ea, rd⟩ := sp_at sH.sl hq
    refine ⟨p21, ⟨ea, by omega, by omega⟩, _, _, _, _, _, rd, svc_sp rfl ?_⟩
    have bx := push_at H (spBox s)
    have kx := keep_push H (spBox s)
    have zx : (H.push (spBox s)).size = H.size + 1 := by simp
    generalize H.push (spBox s) = H2 at bx kx zx
    refine ⟨_, _, _, _, _, sp_all bx, (writes_spec (so.keep kx) (by have := hs8 s hmem; omega)).mono ?_⟩
    rintro v h37 ⟨k37, r, aW, kW, cW, ml, W, rfl, hW, hpg, slW, bW, hkW, hml⟩
    have kH37 := kx.trans (k37.mono kx.size)
    have d37 := dH.wide kH37
    have z37 := k37.size
    refine ⟨_, _, _, _, rfl, (d37.free).mono ?_⟩
    rintro v h43 ⟨k43, rfl⟩
    have hs8' := hs8 s hmem
    have hWl := hW.len
    have okx := dH.ok
    have hP := pgs_le okx nf
    rw [xcl.idle.pn] at hP
    refine ⟨_, rfl, (wants_spec (slW.keep k43) (by have := slW.1; omega) (by omega) (free_rng okx) hkW).mono ?_⟩
    rintro v h46 ⟨k46, rfl⟩
    have kk46 := k43.trans (k46.mono k43.size)
    have kH46 := kH37.trans (kk46.mono kH37.size)
    have d46 := d37.keep kk46
    have hNp' : Nw N H h37 pp := .inl hNp
    have hNh' : ∀ q, q < h.size → Nw N H h37 q := fun q hq => .inl (hNh q hq)
    have hNx : Nw N H h37 H.size := .inr ⟨Nat.le_refl _, by omega⟩
    have pg46 : PgsAt (Nw N H h37) h46 r ml := ((hpg.keep k43).keep k46).mono fun q hq => .inr ⟨by omega, by omega⟩
    have bW' : ∀ q, blk aW q → Nw N H h37 q := fun q hq => .inr ⟨by have := (bW q hq).1; omega, by have := (bW q hq).2; omega⟩
    have sl46 := slW.keep kk46
    have r46 : RowN (Nw N H h37) h46 a17 P.length P := (rH.keep kH46).mono fun q hq => .inl hq
    have t46 := turn_keep tH kH46
    have p46 := pH.keep kH46
    have b46 : h46[H.size]? = some (spBox s) := (k37.trans (kk46.mono k37.size)).at bx (by omega)
    generalize Nw N H h37 = M at d46 hNp' hNh' hNx pg46 bW' r46
    refine ⟨_, rfl, br_intro (fun e2 => ?_) fun e2 => ?_⟩
    · rw [wrap_i64 (by omega) (by omega)]
      exact ⟨⟨j + 1, kk, pp, M, x, P, rfl, rfl, hlt, by omega, rfl, d46, hNp', hNh', t46, p46, r46, xroom, xdn, xcl, by omega⟩, by (try dsimp only); omega⟩
    · have e2 : Pg.wants P.length (Dk.free x) W = 0 := by simpa using e2
      obtain ⟨w1, w2⟩ := wants_ok e2
      refine ⟨s.fu, reads_load scI (cell_cells b46 rfl), s.ke, reads_load scU64 (cell_cells b46 rfl), (d46.arm so.fu so.ke).mono ?_⟩
      rintro v h51 ⟨st51, rfl⟩
      refine ⟨rfl, ?_⟩
      have x1cl : Pg.Clean nf P (arm x s.fu s.ke) := xcl.same rfl rfl rfl
      have b51 := box_stp b46 hNx st51
      have r51 := r46.stp st51
      have sl51 := sl46.updM st51.up fun _ q hq hn => hn (bW' q hq)
      have pg51 := pg46.updM st51.up fun q hq hn => hn hq
      have p51 := p46.updM st51.up fun hn => hn hNp'
      have t51 := turn_stp t46 hNh' st51
      have d51 := st51.dn
      have ok1 := d51.ok
      have x1w : (arm x s.fu s.ke).waits.length ≤ 60 * (j + kk) := hwt
      have x1r : (arm x s.fu s.ke).room = 200 := xroom
      have x1d : (arm x s.fu s.ke).down = false := xdn
      have x1f : Pg.wants P.length (Dk.free (arm x s.fu s.ke)) W = 0 := e2
      generalize arm x s.fu s.ke = x1 at x1cl d51 ok1 x1w x1r x1d x1f
      refine (laid_spec r51.sl sl51 (by omega) (by have := slW.1; omega) w1 w2).mono ?_
      rintro v h53 ⟨k53, a', k', c', rfl, o53⟩
      refine ⟨_, _, _, rfl, ?_⟩
      have d53 := d51.wide k53
      have r53 : RowN (Nw M h51 h53) h53 a17 P.length P := (r51.keep k53).mono fun q hq => .inl hq
      have rn53 : RowN (Nw M h51 h53) h53 a' k' (Pg.laidL W P) := ⟨o53.sl, fun _ q hq => .inr (o53.block q hq)⟩
      have pg53 : PgsAt (Nw M h51 h53) h53 r ml := (pg51.keep k53).mono fun q hq => .inl hq
      have p53 := p51.keep k53
      have t53 := turn_keep t51 k53
      have b53 := k53.at b51 (at_lt b51)
      have hNp2 : Nw M h51 h53 pp := .inl hNp'
      have hNh2 : ∀ q, q < h.size → Nw M h51 h53 q := fun q hq => .inl (hNh' q hq)
      have hNx2 : Nw M h51 h53 H.size := .inl hNx
      generalize Nw M h51 h53 = M2 at d53 r53 rn53 pg53 hNp2 hNh2 hNx2
      refine (commit_spec p53 hNp2 d53 pg53 hW (by omega)).mono ?_
      rintro v h58 ⟨st58, rfl⟩
      refine ⟨_, rfl, ?_⟩
      have yw := commit_waits nf W x1
      have hnp := nparts_le (W := W) (fun q hq => ⟨by have := (hkW q hq).2; omega, w1 q hq⟩) (by omega)
      have r58 := r53.stp st58
      have rn58 := rn53.stp st58
      have p58 := p53.updM st58.up fun hn => hn hNp2
      have t58 := turn_stp t53 hNh2 st58
      have b58 := box_stp b53 hNx2 st58
      have d58 := st58.dn
      have hjob := Pg.commit_job ok1 x1d x1cl hW.srt x1f (by omega)
      rw [x1r] at hjob
      have yw2 : (Pg.commit nf W x1).2.waits.length ≤ 60 * (j + kk) + 40 := by omega
      have hres : ((Pg.commit nf W x1).1 = 0 ∧ (Pg.commit nf W x1).2.room = 200 ∧ (Pg.commit nf W x1).2.down = false ∧ Pg.Clean nf (Pg.laidL W P) (Pg.commit nf W x1).2) ∨
          ((Pg.commit nf W x1).1 = 8 ∧ (Pg.commit nf W x1).2.room = 200 ∧ (Pg.commit nf W x1).2.down = true ∧ ∃ K, Job P W K 200 ∧ Mid nf P W K (Pg.commit nf W x1).2) := by
        rcases hjob with ⟨K, jb, ⟨e1, _, e3, e4, e5⟩ | ⟨e1, _, e3, e4, e5⟩⟩ | ⟨ec, el⟩
        · exact .inl ⟨e1, e3, e4, e5⟩
        · exact .inr ⟨e1, e3, e4, K, jb, e5⟩
        · rw [ec, el]; exact .inl ⟨rfl, x1r, x1d, x1cl⟩
      generalize Pg.commit nf W x1 = ry at d58 st58 yw2 hres
      obtain ⟨ye, y⟩ := ry
      dsimp only at d58 yw2 hres ⊢
      rcases hres with ⟨rfl, yroom, ydn, ycl⟩ | ⟨rfl, yroom, ydn, K, jb, ymid⟩
      · refine br_intro (fun _ => ?_) fun e => by simp at e
        refine (d58.arm (n := 0) (keep := 0) (by decide) (by decide)).mono ?_
        rintro v h61 ⟨st61, rfl⟩
        refine ⟨rfl, ?_⟩
        rw [wrap_i64 (by omega) (by omega)]
        exact ⟨⟨j + 1, kk, pp, M2, _, _, rfl, rfl, hlt, by omega, rfl, st61.dn, hNp2, hNh2, turn_stp t58 hNh2 st61, p58.updM st61.up fun hn => hn hNp2, rn58.stp st61, yroom, ydn, ycl.same rfl rfl rfl, by show y.waits.length ≤ _; omega⟩, by (try dsimp only); omega⟩
      · refine br_intro (fun e => by simp at e) fun _ => br_intro (fun _ => ?_) fun e => by simp at e
        refine (d58.down).mono ?_
        rintro v h63 ⟨rfl, rfl⟩
        refine ⟨_, rfl, br_intro (fun e => by rw [ydn] at e; cases e) fun _ => ?_⟩
        refine ⟨fun _ _ n69 _ G => ∃ (kz : Nat) (N' : Nat → Prop) (z : D), n69 = kz ∧ kz ≤ m + j ∧ DN N' d z G ∧ N' H.size ∧ (∀ q, q < h.size → N' q) ∧ Turn h G ∧ RowN N' G a17 P.length P ∧ RowN N' G a' k' (Pg.laidL W P) ∧ G[H.size]? = some (spBox s) ∧
            z.room = 200 ∧ Mid nf P W K z ∧ z.waits.length ≤ 60 * (j + kz) + 40, fun _ _ n69 _ _ => 40 - n69.toNat,
          ⟨kk, M2, y, rfl, hkk, d58, hNx2, hNh2, t58, r58, rn58, b58, yroom, ymid, yw2⟩, ?_⟩
        rintro b67 a68 n69 n70 G ⟨kz, N', z, rfl, hkz, dG, hNxG, hNhG, tG, rG, rnG, bG, zroom, zmid, zw⟩
        refine (dG.on).mono ?_
        rintro v h73 ⟨st73, rfl⟩
        refine ⟨rfl, (st73.dn.arm (n := 0) (keep := 0) (by decide) (by decide)).mono ?_⟩
        rintro v h75 ⟨st75, rfl⟩
        have st := st73.trans st75
        refine ⟨rfl, fun F => ∃ z' : D, Stp N' d z' G F ∧ z'.room = 200 ∧ z'.down = false ∧ Mid nf P W K z' ∧ z'.waits.length ≤ 60 * (j + kz) + 40 ∧ (m ≤ kz → z'.fuse = 0), ?_, ?_⟩
        · refine br_intro (fun e3 => ?_) fun e3 => ?_
          · have e3 := of_decide_eq_true e3
            have hkz' : kz < m := by omega
            have hk75 : Sl (IntE .i64) h75 B m ks := by
              refine hk.updM (S := fun _ => False) ((turn_stp tG hNhG st).m (S := fun _ => False)) fun _ _ _ hn => hn
            obtain ⟨p77, v77, eB, hv77, rd77⟩ := ints_at hk75 hkz'
            refine ⟨p77, ⟨eB, by omega, e3⟩, v77, ?_, s.ke, reads_load scU64 (cell_cells (box_stp bG hNxG st) rfl), (st.dn.arm (hkb _ hv77) so.ke).mono ?_⟩
            · exact rd77
            rintro v h81 ⟨st81, rfl⟩
            exact ⟨rfl, _, st.trans st81, zroom, rfl, zmid.same rfl rfl rfl, zw, fun hh => by omega⟩
          · exact ⟨_, st, zroom, rfl, zmid.same rfl rfl rfl, zw, fun _ => rfl⟩
        rintro h82 ⟨z', stz, zroom', zdn', zmid', zw', zf'⟩
        have okz := stz.dn.ok
        have jb' := jb
        rw [← zroom'] at jb'
        have ores := Pg.opn_mid okz zdn' jb' zmid'
        have ow := Pg.opn_waits okz zdn' jb zmid'
        refine (open_law stz.dn (nm := nf) (by decide) (by omega) (Pg.mid_jr okz zdn' jb zmid')).mono ?_
        rintro v h84 ⟨M3, d84, hs84, u84, hM84, p84, rfl⟩
        have t84 : Turn h h84 := ((turn_stp tG hNhG stz).m (S := fun _ => False) |>.trans' u84 fun q hq hn => hn (hNhG q (by omega))).turn fun _ _ => id
        have r84 : RowN M3 h84 a17 P.length P := ((rG.stp stz).updM u84 fun q hq hn => hn hq).mono hs84
        have rn84 : RowN M3 h84 a' k' (Pg.laidL W P) := ((rnG.stp stz).updM u84 fun q hq hn => hn hq).mono hs84
        have b84 : h84[H.size]? = some (spBox s) := u84.cells (box_stp bG hNxG stz) fun hn => hn hNxG
        have hNh84 : ∀ q, q < h.size → M3 q := fun q hq => hs84 q (hNhG q hq)
        have hqt : m ≤ kz → (Pg.opn nf z').2.down = false := fun hh => (Pg.quiet_opn ⟨zdn', zf' hh⟩ nf).down
        generalize Pg.opn nf z' = rz at ores ow d84 hqt
        obtain ⟨ze, z2⟩ := rz
        unfold opAns
        refine ⟨_, _, rfl, ?_⟩
        dsimp only at ores ow d84 hqt ⊢
        have ek : IntKind.i64.wrap ((kz : Int) + 1) = (kz : Int) + 1 := wrap_i64 (by omega) (by omega)
        have ej : IntKind.i64.wrap ((j : Int) + 1) = (j : Int) + 1 := wrap_i64 (by omega) (by omega)
        rw [ek, ej]
        rcases ores with ⟨rfl, okz2, z2room, z2dn, z2cl⟩ | ⟨rfl, okz2, z2room, z2dn, z2mid⟩
        · refine br_intro (fun _ => ?_) fun e => by simp at e
          dsimp only at okz2 z2room z2dn z2cl
          refine (d84.arm (n := 0) (keep := 0) (by decide) (by decide)).mono ?_
          rintro v h88 ⟨st88, rfl⟩
          have p88 := p84.updM st88.up fun hn => hn hM84
          have d88 := st88.dn
          have r88 := r84.stp st88
          have rn88 := rn84.stp st88
          have t88 := turn_stp t84 hNh84 st88
          obtain ⟨Q, hQ, hQ2⟩ : ∃ Q, Pg.Clean nf Q (arm z2 0 0) ∧ (Q = P ∨ Q = Pg.laidL W P) := by
            rcases z2cl with h | h
            · exact ⟨P, h.same rfl rfl rfl, .inl rfl⟩
            · exact ⟨_, h.same rfl rfl rfl, .inr rfl⟩
          have z3dn : (arm z2 0 0).down = false := z2dn
          have z3room : (arm z2 0 0).room = 200 := z2room.trans zroom'
          have z3w : (arm z2 0 0).waits.length ≤ 60 * (j + kz) + 48 := by show z2.waits.length ≤ _; omega
          generalize arm z2 0 0 = z3 at d88 hQ z3dn z3room z3w
          have ok3 := d88.ok
          have hQl := pgs_le ok3 nf
          rw [hQ.idle.pn] at hQl
          have hrl := rn88.sl.1
          have hrest : ∀ h99 a96 k97 k98, Keep h88.size h88 h99 → RowN M3 h99 a96 k97 Q → HC Tryz.prog 19 (Array.mk [.pointer (some ⟨h82.size, 0, none⟩), .slice a96 k97 k98]) h99 fun v h' => v = .bool true ∧ Keep h88.size h88 h' ∧ RowN M3 h' a96 k97 Q := by
            intro h99 a96 k97 k98 k99 rq
            refine (has_spec' (p88.keep k99) (d88.keep k99) z3dn rq.sl (by have := rq.sl.1; omega)).mono ?_
            rintro v h' ⟨k', rfl⟩
            rw [hQ.idle.pn, decide_eq_true rfl]
            exact ⟨rfl, k99.trans (k'.mono k99.size), rq.keep k'⟩
          refine ⟨rfl, fun a96 k97 k98 h99 => Keep h88.size h88 h99 ∧ RowN M3 h99 a96 k97 Q, ?_, ?_⟩
          · refine (pcount_spec p88 d88).mono ?_
            rintro v h91 ⟨rfl, rfl⟩
            have hc : Dk.count z3 nf = Q.length := by unfold Dk.count; rw [if_neg (by rw [z3dn]; decide), hQ.idle.pn]
            rw [hc]
            refine ⟨_, rfl, br_intro (fun e4 => ?_) fun e4 => ?_⟩
            · refine (has_spec' p88 d88 z3dn rn88.sl (by have := of_decide_eq_true e4; omega)).mono ?_
              rintro v h94 ⟨k94, rfl⟩
              rw [hQ.idle.pn]
              refine ⟨_, rfl, br_intro (fun e5 => ?_) fun e5 => ?_⟩
              · rw [of_decide_eq_true e5]; exact ⟨k94, rn88.keep k94⟩
              · have : Q = P := hQ2.resolve_right (of_decide_eq_false e5)
                rw [this]; exact ⟨k94, r88.keep k94⟩
            · have : Q = P := hQ2.resolve_right fun e => of_decide_eq_false e4 (by rw [e, hrl])
              rw [this]; exact ⟨Keep.refl _ _, r88⟩
          · rintro a96 k97 k98 h99 ⟨k99, rq⟩
            refine (hrest h99 a96 k97 k98 k99 rq).mono ?_
            rintro v h101 ⟨rfl, k101, rq1⟩
            refine ⟨_, rfl, br_intro (fun e => by cases e) fun _ => ?_⟩
            exact ⟨⟨j + 1, kz + 1, h82.size, M3, z3, Q, rfl, rfl, hlt, by omega, rfl, d88.keep k101, hM84, hNh84, turn_keep t88 k101, p88.keep k101, rq1, z3room, z3dn, hQ, by omega⟩, by (try dsimp only); omega⟩
        · refine br_intro (fun e => by simp at e) fun _ => ?_
          have hkm : kz < m := by
            by_cases hh : kz < m
            · exact hh
            · have := hqt (by omega)
              dsimp only at z2dn
              rw [this] at z2dn; cases z2dn
          refine br_intro (fun e => ?_) fun _ => ?_
          · simp only [Bool.or_eq_true, decide_eq_true_eq] at e
            rcases e with e | e
            · simp at e
            · omega
          · exact ⟨⟨kz + 1, M3, z2, rfl, by omega, d84, hs84 _ hNxG, hNh84, t84, r84, rn84, b84, z2room.trans zroom', z2mid, by omega⟩, by (try dsimp only); omega⟩
  · refine (dH.off (keep := 0) (by decide) (by omega)).mono ?_
    rintro v h104 ⟨st104, rfl⟩
    refine ⟨rfl, (st104.dn.on).mono ?_⟩
    rintro v h106 ⟨st106, rfl⟩
    refine ⟨rfl, ?_⟩
    have st := st104.trans st106
    have okx := dH.ok
    have hid : Pg.Idle nf P (on (off 0 x)) := (xcl.idle.off okx 0).same rfl rfl rfl
    have hqu : Quiet (on (off 0 x)) := ⟨rfl, by show (off 0 x).fuse = 0; unfold off; rw [if_neg (by rw [xdn]; decide)]⟩
    have hw0 : (on (off 0 x)).waits.length = 0 := by show (off 0 x).waits.length = 0; unfold off; rw [if_neg (by rw [xdn]; decide)]; rfl
    have okz := st.dn.ok
    have d106 := st.dn
    generalize on (off 0 x) = z at hid hqu hw0 okz d106 st
    have ores := Pg.opn_idle okz hqu.down hid
    have hqt := (Pg.quiet_opn hqu nf).down
    refine (open_law d106 (nm := nf) (by decide) (by omega) fun y hy => .inl (Pg.idle_jr okz hqu.down hid y hy)).mono ?_
    rintro v h108 ⟨M3, d108, hs108, u108, hM108, p108, rfl⟩
    have t108 : Turn h h108 := ((turn_stp tH hNh st).m (S := fun _ => False) |>.trans' u108 fun q hq hn => hn (hNh q (by omega))).turn fun _ _ => id
    have r108 : RowN M3 h108 a17 P.length P := ((rH.stp st).updM u108 fun q hq hn => hn hq).mono hs108
    generalize Pg.opn nf z = rz at ores d108 hqt
    obtain ⟨ze, z2⟩ := rz
    dsimp only at d108 hqt
    unfold opAns
    rcases ores with ⟨rfl, okz2, z2room, z2dn, z2cl⟩ | ⟨rfl, okz2, z2room, z2dn, z2mid⟩
    · refine ⟨_, _, rfl, br_intro (fun _ => ?_) fun e => by simp at e⟩
      dsimp only at okz2 z2cl
      have hP := pgs_le okz2 nf
      rw [z2cl.idle.pn] at hP
      refine (has_spec' p108 d108 hqt r108.sl (by omega)).mono ?_
      rintro v h112 ⟨k112, rfl⟩
      rw [z2cl.idle.pn, decide_eq_true rfl]
      refine ⟨_, rfl, br_intro (fun _ => ?_) fun e => by cases e⟩
      have h1 := z2cl.one okz2
      have hl1 : z2.now.length ≤ 1 := by rw [← len_names1]; exact h1
      refine ((d108.keep k112).names (by omega) fun q hq => ?_).mono ?_
      · cases hg : mGet z2.now q with
        | none => exact absurd hq (mGet_none.1 hg)
        | some l =>
          rcases z2cl.idle.on q l hg with rfl | rfl
          · decide
          · decide
      rintro v h115 ⟨k115, a, k, c', rfl, sl⟩
      refine ⟨_, _, _, rfl, turn_keep (turn_keep t108 k112) k115, ?_⟩
      have hk := sl.1
      unfold namesD at hk
      rw [if_neg (by rw [hqt]; decide)] at hk
      rw [decide_eq_true (by omega)]
    · dsimp only at z2dn
      rw [hqt] at z2dn; cases z2dn
end Go.Proofs.YthkhaobmhheoaaaGreat
end
