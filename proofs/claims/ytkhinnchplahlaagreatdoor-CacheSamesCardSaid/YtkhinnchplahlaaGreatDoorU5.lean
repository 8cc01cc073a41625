/-
  Texts of this seat, laid one behind the other: LmZ LmJ LsF LmP LmO Ls5 LmQ LmI Ls4 LmD LmH KvD KvE LmG VcK LmE Ca1 KvR KvK KvL. Conditions: none.
-/
import Derived.Test.YtkhinnchplahlaaGreatDoorU4
import Derived.WideLaws
import Derived.Test.YtkhinnchplahlaaGreatDoorProg
import Derived.KernelRfl
import Derived.SizedLaws
set_option linter.unusedVariables false
set_option linter.unusedSimpArgs false
set_option linter.unusedSectionVars false
section
set_option maxRecDepth 100000
namespace Go.Proofs.YtkhinnchplahlaaGreatDoor
open Go Go.Vc Go.Proofs Go.Dk Go.Kv Go.Ls Go.Cd
open Go.Pg (Quiet Nx layW partB nparts partsW partsW_len)

section
variable {g g' : Nat → Nat} {h h' : Heap} {t d l n c : Nat} {nm : Str} {lp A : Option Addr} {v : Tv} {w : Tw} {N S : Nat → Prop} {x : D}
theorem TrC.nt (p : TrC g h t d nm lp v w) {q k : Nat} (hq : g q = k) (hk : k ≠ 1) : q ≠ t := fun e => by rw [e, p.gt] at hq; exact hk hq.symm
theorem TrC.ints (p : TrC g h t d nm lp v w) (u : Upd (fun q => q = t) h h') {nx la ld : Nat} (b : h'[t]? = some (trBox d nm lp v ⟨w.b, w.mem, w.names, w.tabs, nx, la, ld⟩)) : TrC g h' t d nm lp v ⟨w.b, w.mem, w.names, w.tabs, nx, la, ld⟩ :=
  ⟨b, p.mem.upd u fun q hq => p.nt (p.gm q hq) (by decide), p.nms.upd u fun q hq => p.nt (p.gn q hq) (by decide), p.tbl.upd u fun q hq => p.nt (p.gT q hq) (by decide), p.tbs.updM u.m fun q hq => p.nt hq (by decide), p.gt, p.gm, p.gn, p.gT, fun q hq => Nat.lt_of_lt_of_le (p.lt q hq) u.size⟩
theorem intsL_app (l : List Nat) (n : Nat) : intsL (l ++ [n]) = intsL l ++ [(n : Int)] := by unfold intsL; rw [List.map_append]; rfl
theorem tdiv512 (n : Nat) : (((n : Nat) : Int).tdiv (512 : Int)) = ((n / 512 : Nat) : Int) := rfl
structure Trs (g : Nat → Nat) (N : Nat → Prop) (h : Heap) (t d : Nat) (nm : Str) (w' : Tw) (x' : D) (g' : Nat → Nat) (h' : Heap) : Prop where
  tr : TrAt g' h' t d nm w'
  dn : DN (fun q => N q ∨ g' q ≠ 0) d x' h'
  ext : ∀ q, q < h.size → g' q = g q
  up : UpdM (fun q => ¬ N q ∨ g q = 1 ∨ g q = 2 ∨ g q = 3 ∨ g q = 4) h h'
def laidS (S : TS) : TS := ⟨[], S.names ++ [S.next], S.tabs ++ [ofL S.mem], [], S.last⟩
theorem laid_next (S : TS) : (laidS S).next = S.next + 1 := by
  have h : (laidS S).names.getLast? = some S.next := by simp [laidS]
  show (match (laidS S).names.getLast? with | none => 0 | some n => n + 1) = _
  rw [h]
open Classical in
/-- what new blocks are for. -/
noncomputable def tagL (g : Nat → Nat) (a b c d e : Nat) (A : Option Addr) (q : Nat) : Nat := if q < a then g q else if q < b ∨ (c ≤ q ∧ q < d) then 5 else if q = e ∧ blk A q then 4 else 0
section
variable {g : Nat → Nat} {a b c d e : Nat} {A : Option Addr} {q : Nat}
theorem tagL_old (h : q < a) : tagL g a b c d e A q = g q := if_pos h
theorem tagL_5 (h1 : a ≤ q) (h2 : q < b ∨ (c ≤ q ∧ q < d)) : tagL g a b c d e A q = 5 := by unfold tagL; rw [if_neg (by omega), if_pos h2]
theorem tagL_4 (h1 : a ≤ q) (h2 : ¬ (q < b ∨ (c ≤ q ∧ q < d))) (h3 : q = e ∧ blk A q) : tagL g a b c d e A q = 4 := by unfold tagL; rw [if_neg (by omega), if_neg h2, if_pos h3]
theorem tagL_ne (h : tagL g a b c d e A q ≠ 0) : (q < a ∧ g q ≠ 0) ∨ (a ≤ q ∧ (q < b ∨ (c ≤ q ∧ q < d))) ∨ (q = e ∧ blk A q) := by
  unfold tagL at h
  by_cases h1 : q < a
  · rw [if_pos h1] at h; exact .inl ⟨h1, h⟩
  · rw [if_neg h1] at h
    by_cases h2 : q < b ∨ (c ≤ q ∧ q < d)
    · exact .inr (.inl ⟨by omega, h2⟩)
    · rw [if_neg h2] at h
      by_cases h3 : q = e ∧ blk A q
      · exact .inr (.inr h3)
      · rw [if_neg h3] at h; exact absurd rfl h
end
theorem laid_tw (S : TS) : tw (laidS S) = ⟨[], [], S.names ++ [S.next], S.tabs ++ [ofL S.mem], S.next + 1, S.last, S.last⟩ := by
  unfold tw
  rw [laid_next]
  rfl
def layP (S : TS) : List Str := pagesOf (tabF (ofL S.mem))
def lstP (S : TS) : List Str := pagesOf (tabF (lstT (S.names ++ [S.next]) S.last))
set_option maxHeartbeats 4000000 in
theorem lay_spec {T : TS} (p : TrAt g h t d nm (tw T)) (hnm : nm.size ≤ 1000000) (tab : TabH h) (gbN : N gb ∧ g gb = 0) (dn : DN N d x h) (gN : ∀ q, g q ≠ 0 → N q) (tf : TF nm x.now T) (hq : Quiet x)
    (hm : T.mem.length ≤ 100000) (hnl : T.names.length ≤ 10000) (hnx : T.next < 900000) (hla : T.last < 1000000) (hlp : nparts (tabF (lstT (T.names ++ [T.next]) T.last)) ≤ 2) (hww : x.waits.length ≤ 90000000) (hroom : x.room ≤ 100000000) (hfr0 : 0 ≤ Dk.free x) :
    HC Tryz.prog 43 #[.pointer (some ⟨t, 0, none⟩)] h fun vv h' => vv = .int .i64 0 ∧
      ((Dk.free x < (((tabF (ofL T.mem)).length / 512 + 3 : Nat) : Int) ∧ Keep h.size h h') ∨
      ((((tabF (ofL T.mem)).length / 512 + 3 : Nat) : Int) ≤ Dk.free x ∧ ∃ g' x', Trs g N h t d nm (tw (laidS T)) x' g' h' ∧ Quiet x' ∧ x'.room = x.room ∧ x'.now = del nm (layF nm T.next (layP T) (lstP T) x.now) ∧ x'.waits.length ≤ x.waits.length + 50000)) := by
  obtain ⟨l, A, n, c, v, pp⟩ := p
  have p := pp.core
  have hml := p.mem.1
  have hnml := p.nms.1
  have hil : (intsL (tw T).names).length = T.names.length := by unfold intsL; rw [List.length_map]; rfl
  have hmm : (tw T).mem = T.mem := rfl
  rw [hil] at hnml
  rw [hmm] at hml
  have hfitM := tf.mem_fit
  have hol := ofL_len T.mem
  have hofit := ofL_fit hfitM
  have htl := tabF_len hofit (by omega)
  have hns := next_new tf.inc
  refine HC_of_vc (args := [.pointer (some ⟨t, 0, none⟩)]) (base := 94) (cuts := []) (bigs := []) kM Tryz.func43 ?_
  rw [vcLmLay]
  refine ⟨_, rfl, _, _, _, p.rm, (of_spec p.mem.sl (by omega)).mono ?_⟩
  rintro vv h5 ⟨k5, y, ay, ky, cy, rfl, hy, byy, oy, ny⟩
  rw [hmm] at oy
  have z5 := k5.size
  have hyl := at_lt byy
  have hby := oy.block
  have dn1 : DN (Nv N h h5) d x h5 := dn.wide2 k5
  have ty : TbAt (fun q => h.size ≤ q ∧ q < h5.size) h5 y (ofL T.mem) := ⟨ay, ky, cy, byy, oy.sl, oy.2.1, ⟨hy, hyl⟩, fun _ q hq => hby q hq⟩
  refine ⟨_, rfl, fun H => Keep h5.size h5 H, Keep.refl _ _, (tbytes_spec ty (by omega) hofit).mono ?_⟩
  rintro vv h9 ⟨k9, a10, k11, c12, rfl, o9⟩
  have hk11 := o9.1
  refine ⟨_, _, _, rfl, k9, by decide, _, rfl, _, fun H kH => ((p.keep k5).keep kH).rd, (dn1.keep k9).free.mono ?_⟩
  rintro vv h17 ⟨k17, rfl⟩
  have k517 := k9.trans (k17.mono k9.size)
  have k017 := k5.trans (k517.mono z5)
  have hfle : Dk.free x ≤ 100000000 := by unfold Dk.free; omega
  rw [tdiv512, wrap_i64 (n := ((k11 / 512 : Nat) : Int)) (by omega) (by omega), wrap_i64 (by omega) (by omega)]
  refine ⟨_, rfl, br_intro (fun e => ⟨rfl, .inl ⟨?_, k017⟩⟩) fun e => ?_⟩
  · have := of_decide_eq_true e; omega
  have hroom3 : (((tabF (ofL T.mem)).length / 512 + 3 : Nat) : Int) ≤ Dk.free x := by have := of_decide_eq_false e; omega
  have p17 := p.keep k017
  have dn17 := dn1.keep k517
  have hnx2 : IntKind.i64.wrap (((tw T).nx : Int) + (1 : Int)) = ((T.next + 1 : Nat) : Int) := by
    show IntKind.i64.wrap ((T.next : Int) + 1) = _
    rw [wrap_i64 (by omega) (by omega)]; rfl
  refine ⟨_, rfl, _, p17.rnx, _, rfl, _, p17.rnx, _, rfl, ?_⟩
  rw [hnx2]
  refine svc_store_box (k := 6) kzI p17.box (by simp) rfl (one_int _ _) fun h25 z25 b25 u25 => ?_
  have p25 : TrC g h25 t d nm (some ⟨l, 0, none⟩) v ⟨(tw T).b, (tw T).mem, (tw T).names, (tw T).tabs, T.next + 1, (tw T).la, (tw T).ld⟩ := p17.ints u25 (by rw [b25]; rfl)
  have tnN : N t := gN t (by rw [p.gt]; decide)
  have dn25 : DN (Nv N h h5) d x h25 := dn17.keepM u25.m fun q _ e => by rw [e]; exact .inl tnN
  have hgbl : gb < h.size := dn.lt gbN.1
  have hgbt : gb ≠ t := fun e => by have := gbN.2; rw [e, p.gt] at this; cases this
  have tab25 : TabH h25 := (tab.updM k017.m (S := fun _ => False) id).updM u25.m hgbt
  have z17 := k017.size
  have z517 := k517.size
  refine ⟨fun H => Keep h25.size h25 H, Keep.refl _ _, _, rfl, _, fun H kH => (p25.keep kH).rd, (file_spec p25 hnm tab25 (by show T.next < 1000000; omega)).mono ?_⟩
  rintro vv h31 ⟨k31, rfl⟩
  have hnoF := tf.no_file tf.new_file
  have ty31 : TbAt (fun q => h.size ≤ q ∧ q < h5.size) h31 y (ofL T.mem) := ((ty.keep k517).updM u25.m fun q hq e => by have := p.lt t (by rw [p.gt]; decide); omega).keep k31
  have hnp : nparts (tabF (ofL T.mem)) ≤ (tabF (ofL T.mem)).length / 512 + 1 := by unfold nparts; omega
  refine ⟨_, rfl, k31, (save_spec (f := nmF nm T.next) (ty31.mono fun _ _ => trivial) (by omega) hofit (dn25.keep k31) hq hnoF (by omega) (by omega)).mono ?_⟩
  rintro vv h34 ⟨rfl, dn34, u34⟩
  have z31 := k31.size
  have z34 := u34.size
  obtain ⟨a1, k', a2⟩ := save_nx (f := nmF nm T.next) (l := tabF (ofL T.mem)) hq dn.ok.now hnoF (by unfold nparts; omega) (by omega)
  have hw1 := saveD_waits (nmF nm T.next) (tabF (ofL T.mem)) x
  generalize hx1 : (saveD (nmF nm T.next) (tabF (ofL T.mem)) x).2 = x1 at a2 hw1 dn34
  have p34 := (p25.keep k31).same u34 fun q hq hn => hn (.inl (gN q hq))
  have ty34 : TbAt (fun q => h.size ≤ q ∧ q < h5.size) h34 y (ofL T.mem) := ty31.updM u34 fun q hq hn => hn (.inr hq)
  have tab34 : TabH h34 := (tab25.updM k31.m (S := fun _ => False) id).updM u34 fun hn => hn (.inl gbN.1)
  refine ⟨_, rfl, br_intro (fun e => by simp at e) fun _ => ⟨_, rfl, _, _, _, p34.rs, (cloneI_spec p34.nms.sl (by omega)).mono ?_⟩⟩
  rintro vv h41 ⟨k41, a42, k44, rfl, o41⟩
  have hob41 := o41.block
  refine ⟨_, _, _, rfl, svc_append1 (x := (T.next : Int)) app_is o41 k41.size (bs_i _) (by show (4 * (v.kn + 1) + 192) * 8 ≤ 2 ^ 48; omega) fun a52 k54 h51 o51 u51 b51 => ?_⟩
  have k51 : Keep h34.size h34 h51 := k41.trans (u51.keep k41.size fun q hq => (hob41 q hq).1)
  have hob51 := o51.block
  have z51 := k51.size
  have p51 := p34.keep k51
  have dn51 : DN (Nv (Nv N h h5) h34 h51) d x1 h51 := dn34.wide2 k51
  have tab51 : TabH h51 := tab34.updM k51.m (S := fun _ => False) id
  have hgx1 : x1.now = put (nmF nm T.next) (layP T) x.now := a2.now
  have hno1 : mGet x1.now (nmD nm) = none := by
    rw [hgx1, get_put dn.ok.now, if_neg (Ne.symm (nmF_ne_D nm _))]; exact tf.no_draft
  have hp0 : pgs x.now (nmF nm T.next) = [] := by unfold pgs; rw [hnoF]; rfl
  have hfree1 : Dk.free x1 = Dk.free x - nparts (tabF (ofL T.mem)) := by
    have h1 := tot_put dn.ok.now (nmF nm T.next) (layP T)
    rw [hp0] at h1
    have h2 : (layP T).length = nparts (tabF (ofL T.mem)) := pagesOf_len _
    unfold Dk.free
    rw [a2.room, hgx1]
    simp only [List.length_nil] at h1
    omega
  have hla51 : (tw T).la = T.last := rfl
  refine ⟨_, rfl, _, p51.rla, ?_⟩
  have sn51 : Sl (IntE .i64) h51 a52 (v.kn + 1) (intsL (T.names ++ [T.next])) := by rw [intsL_app]; exact o51.sl
  refine (lists_spec (names := T.names ++ [T.next]) (la := T.last) p51 hnm tab51 dn51 (fun q hq => .inl (.inl (gN q hq))) sn51 (fun k hk => ?_) (by simp; omega) hla a2.q hno1 (by omega) (by omega)).mono ?_
  · rcases List.mem_append.1 hk with hk | hk
    · have := hns k hk; omega
    · rw [List.mem_singleton.1 hk]; omega
  rintro vv h58 ⟨rfl, u58, x2, k2, dn58, nx2, hw2⟩
  have z58 := u58.size
  have p58 := p51.same u58 fun q hq hn => hn (.inl (.inl (gN q hq)))
  have o58 : Vc.Own (IntE .i64) 3 h34.size h58 a52 (v.kn + 1) k54 (intsL (tw T).names ++ [(T.next : Int)]) := o51.updM u58 fun q hq hn => hn (.inr (hob51 q hq))
  have ty58 : TbAt (fun q => h.size ≤ q ∧ q < h5.size) h58 y (ofL T.mem) := (ty34.keep k51).updM u58 fun q hq hn => hn (.inl (.inr hq))
  have l58 : LogAt h58 l d nm A n c (tw T).b := by
    have nl : N l := gN l (by rw [pp.gl]; decide)
    have nA : n ≠ 0 → ∀ q, blk A q → N q := fun h0 q hq => gN q (by rw [pp.gA h0 q hq]; decide)
    have hlt : l ≠ t := p.nt pp.gl (by decide)
    have l25 := (pp.log.keep k017).updM u25.m hlt fun h0 q hq => p.nt (pp.gA h0 q hq) (by decide)
    exact (((l25.keep k31).updM u34 (fun hn => hn (.inl nl)) fun h0 q hq hn => hn (.inl (nA h0 q hq))).keep k51).updM u58 (fun hn => hn (.inl (.inl nl))) fun h0 q hq hn => hn (.inl (.inl (nA h0 q hq)))
  -- the table goes behind the others
  have htT := p58.tbl.1
  have hTb := p58.tbs.1
  refine ⟨_, rfl, br_intro (fun e => by simp at e) fun _ => ⟨fun H => H[t]? = some (trBox d nm (some ⟨l, 0, none⟩) v ⟨(tw T).b, (tw T).mem, (tw T).names, (tw T).tabs, T.next + 1, (tw T).la, (tw T).ld⟩), p58.box, _, rfl, _, _, _, fun H bH => reads_load kTs (cell_cells bH rfl), svc_buildSlice (bs_tb y) ⟨_, _, _, rfl, ?_⟩⟩⟩
  have kp := keep_push h58 (.cells (TbE.enc y).toArray 95 (0, 0))
  have bp := push_at h58 (.cells (TbE.enc y).toArray 95 (0, 0))
  have zp : (h58.push (.cells (TbE.enc y).toArray 95 (0, 0))).size = h58.size + 1 := by simp
  have o1 : Vc.Own TbE 95 h58.size _ (some ⟨h58.size, 0, none⟩) 1 1 [y] := own_box (E := TbE) (n := 1) rfl (Nat.le_refl h58.size) bp
  generalize h58.push (.cells (TbE.enc y).toArray 95 (0, 0)) = h67 at kp bp zp o1
  have p67 := p58.keep kp
  have hTl : v.kT ≤ 1000000 := by
    have h1 : (tw T).tabs.length = T.names.length := tf.lens.symm
    have h2 : v.ts.length = (tw T).tabs.length := hTb
    omega
  refine ⟨p67.box, svc_append app_tb p67.tbl (Nat.zero_le _) o1.sl (by show (4 * (v.kT + 1) + 192) * 8 ≤ 2 ^ 48; omega) fun a73 k75 h72 o72 u72 b72 => ⟨_, _, _, rfl, ?_⟩⟩
  have ntT : ¬ blk v.aT t := fun hq => by have := p.gT _ hq; rw [p.gt] at this; cases this
  have b72t := u72.at p67.box ntT
  have z72 := u72.size
  refine ⟨b72t, _, rfl, _, fun H bH => reads_load kI (cell_cells bH rfl), _, rfl, ?_⟩
  -- the object's own rows
  refine svc_store_box (k := 4) zIs b72t (by simp) rfl (one_slice _ _ _) fun h81 z81 b81 u81 => ⟨_, rfl, ?_⟩
  refine svc_store_box (k := 5) zTs b81 (by simp) rfl (one_slice _ _ _) fun h84 z84 b84 u84 => ⟨_, rfl, ?_⟩
  refine svc_store_box (k := 3) zWs b84 (by simp) rfl (one_slice _ _ _) fun h87 z87 b87 u87 => ⟨_, rfl, ?_⟩
  refine svc_store_box (k := 8) kzI b87 (by simp) rfl (one_int _ _) fun h90 z90 b90 u90 => ⟨_, rfl, ?_⟩
  have ut : Upd (fun q => q = t) h72 h90 := ((u81.trans u84).trans u87).trans u90
  have b90' : h90[t]? = some (trBox d nm (some ⟨l, 0, none⟩) ⟨none, 0, 0, a52, v.kn + 1, k54, a73, v.kT + 1, k75, v.ts ++ [y]⟩ ⟨[], [], T.names ++ [T.next], T.tabs ++ [ofL T.mem], T.next + 1, T.last, T.last⟩) := by rw [b90]; rfl
  have zut := ut.size
  have zkp := kp.size
  have u6772 : UpdM (fun q => g q = 4) h67 h72 := (u72.mono fun q hq => p.gT q hq).m
  have hltT := p.lt
  have htlt := p.lt t (by rw [p.gt]; decide)
  have hllt := p.lt l (by rw [pp.gl]; decide)
  have dn72 : DN (Nv (Nv (Nv N h h5) h34 h51) h58 h72) d x2 h72 := by
    have h1 : UpdM (fun q => g q = 4) h58 h72 := (kp.m (S := fun q => g q = 4)).trans u6772
    exact dn58.own h1 (fun q _ e => .inl (.inl (gN q (by rw [e]; decide)))) fun q hq => hq.elim (fun h2 => ⟨.inl h2, Nat.lt_of_lt_of_le (dn58.lt h2) h1.size⟩) fun h2 => ⟨.inr h2.1, h2.2⟩
  have dn90 := dn72.keepM ut.m fun q _ e => by rw [e]; exact .inl (.inl (.inl tnN))
  have l90 : LogAt h90 l d nm A n c (tw T).b := by
    have hl4 : ¬ g l = 4 := by rw [pp.gl]; decide
    have hlt : l ≠ t := p.nt pp.gl (by decide)
    exact ((l58.keep kp).updM u6772 hl4 fun h0 q hq => by rw [pp.gA h0 q hq]; decide).updM ut.m hlt fun h0 q hq => p.nt (pp.gA h0 q hq) (by decide)
  have rl90 : Reads Tryz.prog (Instr.loadAt 78 (.pointer (some ((⟨t, 0, none⟩ : Addr).add 2)))) h90 (.pointer (some ⟨l, 0, none⟩)) := reads_load kLp (cell_cells b90' rfl)
  have nl : N l := gN l (by rw [pp.gl]; decide)
  have hlpw : nparts (tabF (lstT (T.names ++ [T.next]) T.last)) ≤ 2 := hlp
  refine ⟨_, rl90, (lclear_spec l90 dn90 (.inl (.inl (.inl nl))) (fun h0 q hq => .inl (.inl (.inl (gN q (by rw [pp.gA h0 q hq]; decide))))) nx2.q (by omega)).mono ?_⟩
  rintro vv h94 ⟨rfl, x3, dn94, q3, room3, now3, w3, log94, u94⟩
  refine ⟨_, rfl, rfl, .inr ⟨hroom3, tagL g h.size h5.size h34.size h51.size h67.size a73, x3, ⟨?_, ?_, fun q hq => tagL_old hq, ?_⟩, q3, by rw [room3, nx2.room, a2.room], ?_, by omega⟩⟩
  · -- the tree
    have hl1 : g l ≠ 1 := by rw [pp.gl]; decide
    have nN3 : ∀ {q}, Nv (Nv (Nv N h h5) h34 h51) h58 h72 q → q ≠ l → ¬ (¬ Nv (Nv (Nv N h h5) h34 h51) h58 h72 q ∨ q = l) := fun h1 h2 h3 => h3.elim (fun h4 => h4 h1) h2
    have z90 := ut.size
    have z94 := u94.size
    refine ⟨l, none, 0, 0, ⟨none, 0, 0, a52, v.kn + 1, k54, a73, v.kT + 1, k75, v.ts ++ [y]⟩, ⟨?_, ?_, ?_, fun h0 => absurd rfl h0⟩⟩
    · rw [laid_tw]
      refine ⟨u94.cells b90' (nN3 (.inl (.inl (.inl tnN))) fun e => hl1 (by rw [← e]; exact p.gt)), Vc.Own.nil _ _ _, ?_, ?_, ?_, ?_, fun q hq => by obtain ⟨_, e, _⟩ := hq; (dsimp only at e; cases e), fun q hq => ?_, fun q hq => ?_, fun q hq => ?_⟩
      · show Vc.Own (IntE .i64) 3 0 h94 a52 (v.kn + 1) k54 (intsL (T.names ++ [T.next]))
        rw [intsL_app]
        have o90 : Vc.Own (IntE .i64) 3 h34.size h90 a52 (v.kn + 1) k54 (intsL (tw T).names ++ [(T.next : Int)]) := by
          refine ((o58.updM (kp.m (S := fun _ => False)) fun _ _ => id).updM u6772 fun q hq e => ?_).upd ut fun q hq e => ?_
          · have h1 := (hob51 q hq).1
            have h2 := hltT q (by rw [e]; decide)
            omega
          · have h1 := (hob51 q hq).1
            omega
        exact (o90.updM u94 fun q hq => nN3 (.inl (.inr (hob51 q hq))) fun e => by have h1 := (hob51 q hq).1; omega).mono (Nat.zero_le _)
      · show Vc.Own TbE 95 0 h94 a73 (v.kT + 1) k75 (v.ts ++ [y])
        have hb72 : ∀ q, blk a73 q → g q = 4 ∨ q = h67.size := fun q hq => (b72 q hq).imp (fun h1 => p.gT q h1) id
        refine (o72.upd ut fun q hq e => ?_).updM u94 fun q hq => ?_
        · rcases hb72 q hq with h1 | h1
          · rw [e, p.gt] at h1; cases h1
          · omega
        · rcases hb72 q hq with h1 | h1
          · exact nN3 (.inl (.inl (.inl (gN q (by rw [h1]; decide))))) fun e => by rw [e, pp.gl] at h1; cases h1
          · exact nN3 (.inr ⟨by omega, by have := o72.block q hq; omega⟩) fun e => by omega
      · -- the tables
        show TbsAt _ h94 (v.ts ++ [y]) (T.tabs ++ [ofL T.mem])
        refine TbsAt.snoc ?_ ?_
        · have h1 : TbsAt (fun q => g q = 5) h94 v.ts (tw T).tabs := by
            refine (((p67.tbs).updM u6772 fun q h5 h4 => ?_).updM ut.m fun q h5 e => ?_).updM u94 fun q h5 => ?_
            · rw [h5] at h4; cases h4
            · rw [e, p.gt] at h5; cases h5
            · exact nN3 (.inl (.inl (.inl (gN q (by rw [h5]; decide))))) fun e => by rw [e, pp.gl] at h5; cases h5
          exact h1.mono fun q h5 => by rw [tagL_old (hltT q (by rw [h5]; decide))]; exact h5
        · have h1 : TbAt (fun q => h.size ≤ q ∧ q < h5.size) h94 y (ofL T.mem) := by
            refine (((ty58.keep kp).updM u6772 fun q hq h4 => ?_).updM ut.m fun q hq e => ?_).updM u94 fun q hq => ?_
            · have := hltT q (by rw [h4]; decide); omega
            · omega
            · exact nN3 (.inl (.inl (.inr hq))) fun e => by omega
          exact h1.mono fun q hq => tagL_5 hq.1 (.inl hq.2)
      · rw [tagL_old htlt]; exact p.gt
      · exact tagL_5 (by have := (hob51 q hq).1; omega) (.inr (hob51 q hq))
      · rcases b72 q hq with h1 | h1
        · rw [tagL_old (hltT q (by rw [p.gT q h1]; decide))]; exact p.gT q h1
        · exact tagL_4 (by omega) (by omega) ⟨h1, hq⟩
      · rcases tagL_ne hq with h1 | h1 | h1
        · omega
        · omega
        · have := o72.block q h1.2; omega
    · rw [laid_tw]; exact log94
    · rw [tagL_old hllt]; exact pp.gl
  · refine dn94.sub fun q hq => ?_
    rcases hq with hq | hq
    · exact .inl (.inl (.inl hq))
    · rcases tagL_ne hq with h1 | h1 | h1
      · exact .inl (.inl (.inl (gN q h1.2)))
      · rcases h1.2 with h2 | h2
        · exact .inl (.inl (.inr ⟨h1.1, h2⟩))
        · exact .inl (.inr h2)
      · exact .inr ⟨by omega, by have := o72.block q h1.2; omega⟩
  · have e1 : ∀ q, ¬ Nv N h h5 q → ¬ N q := fun q h1 h2 => h1 (.inl h2)
    have s : ∀ q, q = t → (¬ N q ∨ g q = 1 ∨ g q = 2 ∨ g q = 3 ∨ g q = 4) := fun q e => .inr (.inl (by rw [e]; exact p.gt))
    refine (k017.m.trans (u25.m.mono s)).trans ?_
    refine (k31.m.trans (u34.mono fun q h1 => .inl (e1 q h1))).trans ?_
    refine (k51.m.trans (u58.mono fun q h1 => .inl fun h2 => h1 (.inl (.inl h2)))).trans ?_
    refine (kp.m.trans (u6772.mono fun q h1 => .inr (.inr (.inr (.inr h1))))).trans ?_
    refine (ut.m.mono s).trans (u94.mono fun q h1 => ?_)
    rcases h1 with h1 | h1
    · exact .inl fun h2 => h1 (.inl (.inl (.inl h2)))
    · exact .inr (.inr (.inl (by rw [h1]; exact pp.gl)))
  · rw [now3, nx2.now, hgx1]; rfl
end
end Go.Proofs.YtkhinnchplahlaaGreatDoor
end

section
set_option maxRecDepth 100000
namespace Go.Proofs.YtkhinnchplahlaaGreatDoor
open Go Go.Vc Go.Proofs Go.Dk Go.Kv Go.Ls Go.Cd
open Go.Pg (Quiet Nx layW partB nparts partsW partsW_len)

def joinS (S : TS) : TS := { S with names := [S.next], tabs := [S.whole] }
def jlst (S : TS) : List Str := pagesOf (tabF (lstT [S.next] S.laid))
theorem foldl_snoc {α β : Type} (f : β → α → β) (b : β) {l : List α} {j : Nat} {a : α} (h : l[j]? = some a) : (l.take (j + 1)).foldl f b = f ((l.take j).foldl f b) a := by
  obtain ⟨hj, e⟩ := List.getElem?_eq_some_iff.1 h
  rw [List.take_succ_eq_append_getElem hj, e, List.foldl_append]; rfl
section
variable {g g' : Nat → Nat} {h h' : Heap} {t d l n c : Nat} {nm : Str} {lp A : Option Addr} {v : Tv} {w : Tw} {N S : Nat → Prop} {x : D}
set_option maxHeartbeats 4000000 in
theorem join_spec {T : TS} (p : TrAt g h t d nm (tw T)) (hnm : nm.size ≤ 1000000) (tab : TabH h) (gbN : N gb ∧ g gb = 0) (dn : DN N d x h) (gN : ∀ q, g q ≠ 0 → N q) (tf : TF nm x.now T) (hq : Quiet x)
    (hm : T.tabs.flatten.length ≤ 100000) (hnl : T.names.length ≤ 10000) (hnx : T.next < 900000) (hla : T.laid < 1000000) (hlp : nparts (tabF (lstT [T.next] T.laid)) ≤ 2) (hww : x.waits.length ≤ 90000000) (hroom : x.room ≤ 100000000) (hfr0 : 0 ≤ Dk.free x) :
    HC Tryz.prog 44 #[.pointer (some ⟨t, 0, none⟩)] h fun vv h' => vv = .int .i64 0 ∧
      ((Dk.free x < (((tabF T.whole).length / 512 + 3 : Nat) : Int) ∧ Keep h.size h h') ∨
      ((((tabF T.whole).length / 512 + 3 : Nat) : Int) ≤ Dk.free x ∧ ∃ g' x', Trs g N h t d nm (tw (joinS T)) x' g' h' ∧ Quiet x' ∧ x'.room = x.room ∧ x'.now = (T.names.map (nmF nm)).foldl (fun F f => del f F) (layF nm T.next (pagesOf (tabF T.whole)) (jlst T) x.now) ∧ x'.waits.length ≤ x.waits.length + 50000)) := by
  obtain ⟨l, A, n, c, v, pp⟩ := p
  have p := pp.core
  have hil : (intsL (tw T).names).length = T.names.length := by unfold intsL; rw [List.length_map]; rfl
  have hfitT : ∀ w ∈ T.tabs.flatten, Fit w := fun w hw => by
    obtain ⟨U, hU, hw⟩ := List.mem_flatten.1 hw
    exact (tf.tab U hU).2 w hw
  have hwf : ∀ w ∈ T.whole, Fit w := fun w hw => ofL_fit hfitT w (List.mem_filter.1 hw).1
  have hwl : T.whole.length ≤ T.tabs.flatten.length := by
    have h1 := ofL_len T.tabs.flatten
    have h2 := List.length_filter_le (fun w : Wr => !w.gone) (ofL T.tabs.flatten)
    show ((ofL T.tabs.flatten).filter fun w => !w.gone).length ≤ _
    omega
  have htl := tabF_len hwf (by omega)
  have hns := next_new tf.inc
  have htT := p.tbl.1
  have hTb : v.ts.length = T.tabs.length := p.tbs.1
  have hTn := tf.lens
  refine HC_of_vc (args := [.pointer (some ⟨t, 0, none⟩)]) (base := 93) (cuts := []) (bigs := []) kM Tryz.func44 ?_
  rw [vcLmJoin]
  refine ⟨_, rfl, _, _, _, p.rt, (merge_spec p.tbl.sl p.tbs (by omega) (by show T.tabs.flatten.length ≤ 1000000; omega)).mono ?_⟩
  rintro vv h5 ⟨k5, y, ay, ky, cy, rfl, hy, byy, oy0, ny⟩
  have oy : Vc.Own WrE 42 h.size h5 ay ky cy T.whole := oy0
  clear oy0
  have z5 := k5.size
  have hyl := at_lt byy
  have hby := oy.block
  have dn1 : DN (Nv N h h5) d x h5 := dn.wide2 k5
  have ty : TbAt (fun q => h.size ≤ q ∧ q < h5.size) h5 y T.whole := ⟨ay, ky, cy, byy, oy.sl, oy.2.1, ⟨hy, hyl⟩, fun _ q hq => hby q hq⟩
  refine ⟨_, rfl, fun H => Keep h5.size h5 H, Keep.refl _ _, (tbytes_spec ty (by omega) hwf).mono ?_⟩
  rintro vv h9 ⟨k9, a10, k11, c12, rfl, o9⟩
  have hk11 := o9.1
  refine ⟨_, _, _, rfl, k9, by decide, _, rfl, _, fun H kH => ((p.keep k5).keep kH).rd, (dn1.keep k9).free.mono ?_⟩
  rintro vv h17 ⟨k17, rfl⟩
  have k517 := k9.trans (k17.mono k9.size)
  have k017 := k5.trans (k517.mono z5)
  have hfle : Dk.free x ≤ 100000000 := by unfold Dk.free; omega
  rw [tdiv512, wrap_i64 (n := ((k11 / 512 : Nat) : Int)) (by omega) (by omega), wrap_i64 (by omega) (by omega)]
  refine ⟨_, rfl, br_intro (fun e => ⟨rfl, .inl ⟨?_, k017⟩⟩) fun e => ?_⟩
  · have := of_decide_eq_true e; omega
  have hroom3 : (((tabF T.whole).length / 512 + 3 : Nat) : Int) ≤ Dk.free x := by have := of_decide_eq_false e; omega
  have p17 := p.keep k017
  have dn17 := dn1.keep k517
  have hnx2 : IntKind.i64.wrap (((tw T).nx : Int) + (1 : Int)) = ((T.next + 1 : Nat) : Int) := by
    show IntKind.i64.wrap ((T.next : Int) + 1) = _
    rw [wrap_i64 (by omega) (by omega)]; rfl
  refine ⟨_, rfl, _, p17.rnx, _, rfl, _, p17.rnx, _, rfl, ?_⟩
  rw [hnx2]
  refine svc_store_box (k := 6) kzI p17.box (by simp) rfl (one_int _ _) fun h25 z25 b25 u25 => ?_
  have p25 : TrC g h25 t d nm (some ⟨l, 0, none⟩) v ⟨(tw T).b, (tw T).mem, (tw T).names, (tw T).tabs, T.next + 1, (tw T).la, (tw T).ld⟩ := p17.ints u25 (by rw [b25]; rfl)
  have tnN : N t := gN t (by rw [p.gt]; decide)
  have dn25 : DN (Nv N h h5) d x h25 := dn17.keepM u25.m fun q _ e => by rw [e]; exact .inl tnN
  have hgbl : gb < h.size := dn.lt gbN.1
  have hgbt : gb ≠ t := fun e => by have := gbN.2; rw [e, p.gt] at this; cases this
  have tab25 : TabH h25 := (tab.updM k017.m (S := fun _ => False) id).updM u25.m hgbt
  have z17 := k017.size
  have z517 := k517.size
  refine ⟨fun H => Keep h25.size h25 H, Keep.refl _ _, _, rfl, _, fun H kH => (p25.keep kH).rd, (file_spec p25 hnm tab25 (by show T.next < 1000000; omega)).mono ?_⟩
  rintro vv h31 ⟨k31, rfl⟩
  have hnoF := tf.no_file tf.new_file
  have ty31 : TbAt (fun q => h.size ≤ q ∧ q < h5.size) h31 y T.whole := ((ty.keep k517).updM u25.m fun q hq e => by have := p.lt t (by rw [p.gt]; decide); omega).keep k31
  have hnp : nparts (tabF T.whole) ≤ (tabF T.whole).length / 512 + 1 := by unfold nparts; omega
  refine ⟨_, rfl, k31, (save_spec (f := nmF nm T.next) (ty31.mono fun _ _ => trivial) (by omega) hwf (dn25.keep k31) hq hnoF (by omega) (by omega)).mono ?_⟩
  rintro vv h34 ⟨rfl, dn34, u34⟩
  have z31 := k31.size
  have z34 := u34.size
  obtain ⟨a1, k', a2⟩ := save_nx (f := nmF nm T.next) (l := tabF T.whole) hq dn.ok.now hnoF (by unfold nparts; omega) (by omega)
  have hw1 := saveD_waits (nmF nm T.next) (tabF T.whole) x
  generalize hx1 : (saveD (nmF nm T.next) (tabF T.whole) x).2 = x1 at a2 hw1 dn34
  have p34 := (p25.keep k31).same u34 fun q hq hn => hn (.inl (gN q hq))
  have ty34 : TbAt (fun q => h.size ≤ q ∧ q < h5.size) h34 y T.whole := ty31.updM u34 fun q hq hn => hn (.inr hq)
  have tab34 : TabH h34 := (tab25.updM k31.m (S := fun _ => False) id).updM u34 fun hn => hn (.inl gbN.1)
  refine ⟨_, rfl, br_intro (fun e => by simp at e) fun _ => svc_buildSlice (bs_i (T.next : Int)) ⟨_, _, _, rfl, ?_⟩⟩
  have k37 := keep_push h34 (.cells ((IntE .i64).enc (T.next : Int)).toArray 3 (0, 0))
  have s37 : Sl (IntE .i64) _ (some ⟨h34.size, 0, none⟩) 1 (intsL [T.next]) := (own_box (E := IntE .i64) (T := 3) (n := 1) (xs := [(T.next : Int)]) rfl (Nat.le_refl h34.size) (push_at h34 (.cells ((IntE .i64).enc (T.next : Int)).toArray 3 (0, 0)))).sl
  have z37 : (h34.push (.cells ((IntE .i64).enc (T.next : Int)).toArray 3 (0, 0))).size = h34.size + 1 := by simp
  generalize h34.push (.cells ((IntE .i64).enc (T.next : Int)).toArray 3 (0, 0)) = h37 at k37 s37 z37 ⊢
  have p37 := p34.keep k37
  have dn37 := dn34.keep k37
  have hgx1 : x1.now = put (nmF nm T.next) (pagesOf (tabF T.whole)) x.now := a2.now
  have hno1 : mGet x1.now (nmD nm) = none := by
    rw [hgx1, get_put dn.ok.now, if_neg (Ne.symm (nmF_ne_D nm _))]; exact tf.no_draft
  have hp0 : pgs x.now (nmF nm T.next) = [] := by unfold pgs; rw [hnoF]; rfl
  have hfree1 : Dk.free x1 = Dk.free x - nparts (tabF T.whole) := by
    have h1 := tot_put dn.ok.now (nmF nm T.next) (pagesOf (tabF T.whole))
    rw [hp0, pagesOf_len] at h1
    unfold Dk.free
    rw [a2.room, hgx1]
    simp only [List.length_nil] at h1
    omega
  refine ⟨_, rfl, _, p37.rld, ?_⟩
  refine (lists_spec (names := [T.next]) (la := T.laid) p37 hnm (tab34.updM k37.m (S := fun _ => False) id) dn37 (fun q hq => .inl (gN q hq)) s37 (fun k hk => by rw [List.mem_singleton.1 hk]; omega) (by simp) hla a2.q hno1 (by omega) (by omega)).mono ?_
  rintro vv h44 ⟨rfl, u44, x2, k2, dn44, nx2, hw2⟩
  have z44 := u44.size
  have p44 := p37.same u44 fun q hq hn => hn (.inl (gN q hq))
  have ty44 : TbAt (fun q => h.size ≤ q ∧ q < h5.size) h44 y T.whole := (ty34.keep k37).updM u44 fun q hq hn => hn (.inr hq)
  have l44 : LogAt h44 l d nm A n c (tw T).b := by
    have nl : N l := gN l (by rw [pp.gl]; decide)
    have nA : n ≠ 0 → ∀ q, blk A q → N q := fun h0 q hq => gN q (by rw [pp.gA h0 q hq]; decide)
    have hlt : l ≠ t := p.nt pp.gl (by decide)
    have l25 := (pp.log.keep k017).updM u25.m hlt fun h0 q hq => p.nt (pp.gA h0 q hq) (by decide)
    exact (((l25.keep k31).updM u34 (fun hn => hn (.inl nl)) fun h0 q hq hn => hn (.inl (nA h0 q hq))).keep k37).updM u44 (fun hn => hn (.inl nl)) fun h0 q hq hn => hn (.inl (nA h0 q hq))
  refine ⟨_, rfl, br_intro (fun e => by simp at e) fun _ => ⟨_, rfl, _, _, _, p44.rs, svc_buildSlice (bs_i (T.next : Int)) ⟨_, _, _, rfl, ?_⟩⟩⟩
  have k51 := keep_push h44 (.cells ((IntE .i64).enc (T.next : Int)).toArray 3 (0, 0))
  have o51 : Vc.Own (IntE .i64) 3 h44.size _ (some ⟨h44.size, 0, none⟩) 1 1 [(T.next : Int)] := own_box (E := IntE .i64) (n := 1) rfl (Nat.le_refl h44.size) (push_at h44 (.cells ((IntE .i64).enc (T.next : Int)).toArray 3 (0, 0)))
  have z51 : (h44.push (.cells ((IntE .i64).enc (T.next : Int)).toArray 3 (0, 0))).size = h44.size + 1 := by simp
  generalize h44.push (.cells ((IntE .i64).enc (T.next : Int)).toArray 3 (0, 0)) = h51 at k51 o51 z51
  refine svc_buildSlice (bs_tb y) ⟨_, _, _, rfl, _, rfl, ?_⟩
  have k56 := keep_push h51 (.cells (TbE.enc y).toArray 95 (0, 0))
  have o56 : Vc.Own TbE 95 h51.size _ (some ⟨h51.size, 0, none⟩) 1 1 [y] := own_box (E := TbE) (n := 1) rfl (Nat.le_refl h51.size) (push_at h51 (.cells (TbE.enc y).toArray 95 (0, 0)))
  have z56 : (h51.push (.cells (TbE.enc y).toArray 95 (0, 0))).size = h51.size + 1 := by simp
  show SVC _ _ (h51.push (.cells (TbE.enc y).toArray 95 (0, 0))) _
  generalize h51.push (.cells (TbE.enc y).toArray 95 (0, 0)) = h56 at k56 o56 z56
  have k4456 : Keep h44.size h44 h56 := k51.trans (k56.mono (by omega))
  have p56 := p44.keep k4456
  refine svc_store_box (k := 4) zIs p56.box (by simp) rfl (one_slice _ _ _) fun h62 z62 b62 u62 => ⟨_, rfl, ?_⟩
  refine svc_store_box (k := 5) zTs b62 (by simp) rfl (one_slice _ _ _) fun h65 z65 b65 u65 => ?_
  have ut : Upd (fun q => q = t) h56 h65 := u62.trans u65
  have b65' : h65[t]? = some (trBox d nm (some ⟨l, 0, none⟩) ⟨v.am, v.km, v.cm, some ⟨h44.size, 0, none⟩, 1, 1, some ⟨h51.size, 0, none⟩, 1, 1, [y]⟩ (tw (joinS T))) := by rw [b65]; rfl
  have hltT := p.lt
  have htlt := p.lt t (by rw [p.gt]; decide)
  have hllt := p.lt l (by rw [pp.gl]; decide)
  have zut := ut.size
  obtain ⟨g', hg'⟩ : ∃ g', g' = tagL g h.size h5.size h44.size h51.size h51.size (some ⟨h51.size, 0, none⟩) := ⟨_, rfl⟩
  have gold : ∀ {q}, q < h.size → g' q = g q := fun h1 => by rw [hg']; exact tagL_old h1
  have g5 : ∀ {q}, h.size ≤ q → (q < h5.size ∨ (h44.size ≤ q ∧ q < h51.size)) → g' q = 5 := fun h1 h2 => by rw [hg']; exact tagL_5 h1 h2
  have g4 : g' h51.size = 4 := by rw [hg']; exact tagL_4 (by omega) (by omega) ⟨rfl, _, rfl, rfl⟩
  have gne : ∀ {q}, g' q ≠ 0 → (q < h.size ∧ g q ≠ 0) ∨ (h.size ≤ q ∧ (q < h5.size ∨ (h44.size ≤ q ∧ q < h51.size))) ∨ q = h51.size := fun h1 => by
    rw [hg'] at h1
    rcases tagL_ne h1 with h2 | h2 | h2
    · exact .inl h2
    · exact .inr (.inl h2)
    · exact .inr (.inr h2.1)
  -- the tree, with its one table
  have P65 : TrP g' h65 t d nm l A n c ⟨v.am, v.km, v.cm, some ⟨h44.size, 0, none⟩, 1, 1, some ⟨h51.size, 0, none⟩, 1, 1, [y]⟩ (tw (joinS T)) := by
    refine ⟨⟨b65', ?_, ?_, ?_, ?_, ?_, fun q hq => ?_, fun q hq => ?_, fun q hq => ?_, fun q hq => ?_⟩, ?_, ?_, fun h0 q hq => ?_⟩
    · exact p56.mem.upd ut fun q hq => p.nt (p.gm q hq) (by decide)
    · refine ((o51.upd (k56.upd fun _ => False) fun _ _ h => h).upd ut fun q hq e => ?_).mono (Nat.zero_le _)
      have h1 := (o51.block q hq).1
      omega
    · refine (o56.upd ut fun q hq e => ?_).mono (Nat.zero_le _)
      have h1 := (o56.block q hq).1
      omega
    · have h1 : TbAt (fun q => h.size ≤ q ∧ q < h5.size) h65 y T.whole := (ty44.keep k4456).updM ut.m fun q hq e => by omega
      refine ⟨rfl, fun i u U h2 h3 => ?_⟩
      have h0 : i = 0 := by
        have := (List.getElem?_eq_some_iff.1 h2).1
        simp at this; omega
      subst h0
      have h2 : some y = some u := h2
      have h3 : some T.whole = some U := h3
      injection h2 with h2
      injection h3 with h3
      subst h2 h3
      exact h1.mono fun q hq => g5 hq.1 (.inl hq.2)
    · rw [gold htlt]; exact p.gt
    · rw [gold (hltT q (by rw [p.gm q hq]; decide))]; exact p.gm q hq
    · obtain ⟨b, e1, e2⟩ := hq
      injection e1 with e1
      subst e1
      have e2 : h44.size = q := e2
      exact g5 (by omega) (.inr ⟨by omega, by omega⟩)
    · obtain ⟨b, e1, e2⟩ := hq
      injection e1 with e1
      subst e1
      have e2 : h51.size = q := e2
      rw [← e2]; exact g4
    · rcases gne hq with h1 | h1 | h1 <;> omega
    · exact (l44.keep k4456).updM ut.m (p.nt pp.gl (by decide)) fun h0 q hq => p.nt (pp.gA h0 q hq) (by decide)
    · rw [gold hllt]; exact pp.gl
    · rw [gold (hltT q (by rw [pp.gA h0 q hq]; decide))]; exact pp.gA h0 q hq
  have dn65 : DN (fun q => N q ∨ g' q ≠ 0) d x2 h65 := by
    have h1 : DN (Nv (Nv N h h5) h44 h56) d x2 h56 := dn44.wide2 k4456
    refine (h1.keepM ut.m fun q _ e => by rw [e]; exact .inl (.inl tnN)).sub fun q hq => ?_
    rcases hq with hq | hq
    · exact .inl (.inl hq)
    · rcases gne hq with h2 | h2 | h2
      · exact .inl (.inl (gN q h2.2))
      · rcases h2.2 with h3 | h3
        · exact .inl (.inr ⟨h2.1, h3⟩)
        · exact .inr ⟨by omega, by omega⟩
      · exact .inr ⟨by omega, by omega⟩
  have up65 : UpdM (fun q => ¬ N q ∨ g q = 1 ∨ g q = 2 ∨ g q = 3 ∨ g q = 4) h h65 := by
    have e1 : ∀ q, ¬ Nv N h h5 q → ¬ N q := fun q h1 h2 => h1 (.inl h2)
    have s : ∀ q, q = t → (¬ N q ∨ g q = 1 ∨ g q = 2 ∨ g q = 3 ∨ g q = 4) := fun q e => .inr (.inl (by rw [e]; exact p.gt))
    refine (k017.m.trans (u25.m.mono s)).trans ?_
    refine (k31.m.trans (u34.mono fun q h1 => .inl (e1 q h1))).trans ?_
    refine (k37.m.trans (u44.mono fun q h1 => .inl (e1 q h1))).trans ?_
    exact k4456.m.trans (ut.m.mono s)
  have tab65 : TabH h65 := ((tab34.updM k37.m (S := fun _ => False) id).updM u44 (fun hn => hn (.inl gbN.1))).updM (k4456.m (S := fun q => q = t) |>.trans ut.m) hgbt
  have old65 : Sl (IntE .i64) h65 v.an v.kn (intsL T.names) := by
    have h1 := p56.nms.upd ut fun q hq => p.nt (p.gn q hq) (by decide)
    exact h1.sl
  have hkn : v.kn = T.names.length := by have := p.nms.1; rw [hil] at this; exact this.symm
  have hbas : x2.now = layF nm T.next (pagesOf (tabF T.whole)) (jlst T) x.now := by rw [nx2.now, hgx1]; rfl
  have hsrt2 : SrtF x2.now := by rw [hbas]; exact (get_layF (nm := nm) dn.ok.now T.next (pagesOf (tabF T.whole)) (jlst T) nm).1
  have hget2 : ∀ k ∈ T.names, (mGet x2.now (nmF nm k)).isSome = true := fun k hk => by
    rw [hbas, (get_layF dn.ok.now T.next _ _ _).2, if_neg (nmF_ne_L nm k), if_neg (nmF_ne_D nm k), if_neg fun e => by have := hns k hk; rw [nmF_inj e] at this; omega]
    obtain ⟨i, hi, rfl⟩ := List.getElem_of_mem hk
    have hU : T.tabs[i]? = some (T.tabs[i]'(by omega)) := List.getElem?_eq_getElem (by omega)
    rw [tf.files i _ _ (List.getElem?_eq_getElem hi) hU]; rfl
  have hnd : T.names.Pairwise (· ≠ ·) := tf.inc.imp fun h1 h2 => by omega
  have hw0 : x2.waits.length ≤ x.waits.length + 49000 := by have : nparts (tabF (lstT [T.next] T.laid)) ≤ 2 := hlp; omega
  have hr2 : x2.room = x.room := by rw [nx2.room, a2.room]
  refine ⟨fun _ n69 G => ∃ (j : Nat) (y : D), n69 = j ∧ j ≤ T.names.length ∧ DN (fun q => N q ∨ g' q ≠ 0) d y G ∧ UpdM (fun q => ¬ (N q ∨ g' q ≠ 0)) h65 G ∧ Quiet y ∧ y.room = x.room ∧ y.now = ((T.names.take j).map (nmF nm)).foldl (fun F f => del f F) x2.now ∧ y.waits.length ≤ x2.waits.length,
    fun _ n69 _ => T.names.length - n69.toNat, ⟨0, x2, rfl, Nat.zero_le _, dn65, UpdM.refl _ _, nx2.q, hr2, by simp, Nat.le_refl _⟩, ?_⟩
  rintro n68 n69 G ⟨j, y2, rfl, hj, dG, uG, qG, rG, nG, wG⟩
  have PG := P65.same uG fun q hq hn => hn (.inr hq)
  refine br_intro (fun e => ?_) fun e => ?_
  · have e := of_decide_eq_true e
    have hjl : j < T.names.length := by omega
    have hqn : T.names[j]? = some (T.names[j]'hjl) := List.getElem?_eq_getElem hjl
    have hmem := List.getElem_mem hjl
    have hfresh : nmF nm (T.names[j]'hjl) ∉ (T.names.take j).map (nmF nm) := fun hin => by
      obtain ⟨m2, hm2, em⟩ := List.mem_map.1 hin
      obtain ⟨i, hi, rfl⟩ := List.getElem_of_mem hm2
      rw [List.length_take] at hi
      have := (List.pairwise_iff_getElem.1 hnd) i j (by omega) hjl (by omega)
      rw [List.getElem_take] at em
      exact this (nmF_inj em)
    generalize T.names[j]'hjl = m at hqn hmem hfresh
    have hm6 := hns m hmem
    have hqi : (intsL T.names)[j]? = some (m : Int) := by unfold intsL; rw [List.getElem?_map, hqn]; rfl
    have sG : Sl (IntE .i64) G v.an v.kn (intsL T.names) := old65.updM uG fun _ q hq hn => hn (.inl (gN q (by rw [p.gn q hq]; decide)))
    obtain ⟨p71, ea, hp71⟩ := sG.get hqi
    have tabG : TabH G := tab65.updM uG fun hn => hn (.inl gbN.1)
    refine ⟨p71, ⟨ea, by omega, e⟩, (m : Int), reads_load kI (by rw [Int.toNat_natCast]; exact hp71 0 _ rfl), fun H => Keep G.size G H, Keep.refl _ _, _, rfl, _, fun H kH => (PG.core.keep kH).rd, (file_spec PG.core hnm tabG (by omega)).mono ?_⟩
    rintro vv h78 ⟨k78, rfl⟩
    have hsome : (mGet y2.now (nmF nm m)).isSome = true := by
      rw [nG, (get_dels _ hsrt2 _).2, if_neg hfresh]; exact hget2 m hmem
    refine ⟨_, rfl, k78, ((dG.keep k78).remove (s := nmF nm m) (by omega)).mono ?_⟩
    rintro vv h81 ⟨st, rfl⟩
    obtain ⟨r1, r2⟩ := Pg.remove_nx qG hsome
    have hwr := Pg.remove_waits y2 (nmF nm m)
    rw [r1]
    refine ⟨_, rfl, br_intro (fun e => by simp at e) fun _ => ?_⟩
    rw [wrap_i64 (by omega) (by omega)]
    refine ⟨⟨j + 1, _, rfl, hjl, st.dn, uG.trans (k78.m.trans st.up), r2.q, by rw [r2.room]; exact rG, ?_, by omega⟩, by dsimp only; omega⟩
    rw [r2.now, nG, List.map_take, List.map_take, foldl_snoc (fun (F : Fs) f => del f F) x2.now (l := T.names.map (nmF nm)) (j := j) (a := nmF nm m) (by rw [List.getElem?_map, hqn]; rfl)]
  · have e := of_decide_eq_false e
    have hjn : j = T.names.length := by omega
    subst hjn
    rw [List.take_length, hbas] at nG
    refine ⟨rfl, .inr ⟨hroom3, g', y2, ⟨⟨l, A, n, c, _, PG⟩, dG, fun q hq => gold hq, up65.trans (uG.mono fun q h1 => .inl fun h2 => h1 (.inl h2))⟩, qG, rG, nG, by omega⟩⟩
end
end Go.Proofs.YtkhinnchplahlaaGreatDoor
end

section
namespace Go.Ls
open Go Go.Vc Go.Dk Go.Kv Go.Cd Go.Pg

def tabP (l : List (List Wr)) : Nat := (l.map fun T => nparts (tabF T)).sum
def lstN (S : TS) : Nat := if S.names = [] then 0 else nparts (tabF (lstT S.names S.laid))
def phi (S : TS) : Nat := npg (logB S.recs).length + tabP S.tabs + lstN S
section
variable {nm : Str} {F : Fs} {S : TS}
theorem pgs_none {f : Str} (h : mGet F f = none) : pgs F f = [] := by unfold pgs; rw [h]; rfl
theorem pgs_some {f : Str} {l : List Str} (h : mGet F f = some l) : pgs F f = l := by unfold pgs; rw [h]; rfl
theorem TF.lst_len (t : TF nm F S) : (pgs F (nmL nm)).length = lstN S := by
  unfold lstN
  by_cases h : S.names = []
  · rw [if_pos h, pgs_none (t.noL h).1]; rfl
  · rw [if_neg h, pgs_some (t.list h), pagesOf_len]
theorem TF.tot_append (t : TF nm F S) (l : List Wr) : tot (put nm (lpages (logB S.recs ++ frameB (recB (S.last + 1) l))) F) + phi S = tot F + phi { S with mem := S.mem ++ l, recs := S.recs ++ [(S.last + 1, l)] } := by
  have h1 := tot_put t.srt nm (lpages (logB S.recs ++ frameB (recB (S.last + 1) l)))
  rw [t.log, lpages_len, lpages_len] at h1
  have h2 : phi { S with mem := S.mem ++ l, recs := S.recs ++ [(S.last + 1, l)] } = npg (logB S.recs ++ frameB (recB (S.last + 1) l)).length + tabP S.tabs + lstN S := by
    unfold phi
    dsimp only
    rw [logB_snoc]
    rfl
  rw [h2]
  unfold phi
  omega
theorem tot_layF (t : TF nm F S) (n : Nat) (hn : n ∉ S.names) (P1 P2 : List Str) : tot (layF nm n P1 P2 F) + lstN S = tot F + P1.length + P2.length := by
  have s1 := srt_put t.srt (nmF nm n) P1
  have s2 := srt_put s1 (nmD nm) P2
  have h1 := tot_put t.srt (nmF nm n) P1
  have h2 := tot_put s1 (nmD nm) P2
  have h3 := tot_moved s2 (a := nmD nm) (b := nmL nm) (Ne.symm (nmL_ne_D nm))
  rw [pgs_none (t.no_file hn)] at h1
  have e2 : mGet (put (nmF nm n) P1 F) (nmD nm) = none := by rw [get_put t.srt, if_neg (Ne.symm (nmF_ne_D nm n))]; exact t.no_draft
  rw [pgs_none e2] at h2
  have e3 : pgs (put (nmD nm) P2 (put (nmF nm n) P1 F)) (nmL nm) = pgs F (nmL nm) := by
    unfold pgs
    rw [get_put s1, if_neg (nmL_ne_D nm), get_put t.srt, if_neg (Ne.symm (nmF_ne_L nm n))]
  rw [e3, t.lst_len] at h3
  unfold layF
  simp only [List.length_nil] at h1 h2
  omega
theorem tabP_snoc (l : List (List Wr)) (T : List Wr) : tabP (l ++ [T]) = tabP l + nparts (tabF T) := by
  unfold tabP; rw [List.map_append, List.sum_append]; simp
theorem TF.tot_lay (t : TF nm F S) : tot (del nm (layF nm S.next (pagesOf (tabF (ofL S.mem))) (pagesOf (tabF (lstT (S.names ++ [S.next]) S.last))) F)) + phi S = tot F + phi ⟨[], S.names ++ [S.next], S.tabs ++ [ofL S.mem], [], S.last⟩ := by
  have hs := (get_layF (nm := nm) t.srt S.next (pagesOf (tabF (ofL S.mem))) (pagesOf (tabF (lstT (S.names ++ [S.next]) S.last))) nm)
  have h1 := tot_layF t S.next t.new_file (pagesOf (tabF (ofL S.mem))) (pagesOf (tabF (lstT (S.names ++ [S.next]) S.last)))
  have h2 := tot_del hs.1 nm
  have e : pgs (layF nm S.next (pagesOf (tabF (ofL S.mem))) (pagesOf (tabF (lstT (S.names ++ [S.next]) S.last))) F) nm = lpages (logB S.recs) := by
    rw [← t.log]
    unfold pgs
    rw [hs.2, if_neg (Ne.symm (under_ne (nmL_under nm))), if_neg (Ne.symm (under_ne (nmD_under nm))), if_neg (Ne.symm (under_ne (nmF_under nm _)))]
  rw [e, lpages_len] at h2
  rw [pagesOf_len, pagesOf_len] at h1
  have h3 : phi ⟨[], S.names ++ [S.next], S.tabs ++ [ofL S.mem], [], S.last⟩ = tabP S.tabs + nparts (tabF (ofL S.mem)) + nparts (tabF (lstT (S.names ++ [S.next]) S.last)) := by
    unfold phi lstN
    dsimp only
    rw [tabP_snoc, if_neg (by simp)]
    have : npg (logB []).length = 0 := rfl
    omega
  rw [h3]
  unfold phi
  omega
theorem tot_dels : ∀ (l : List (Str × Nat)) {G : Fs}, SrtF G → (l.map (·.1)).Nodup → (∀ p ∈ l, (pgs G p.1).length = p.2) → tot ((l.map (·.1)).foldl (fun F f => del f F) G) + (l.map (·.2)).sum = tot G
  | [], G, _, _, _ => rfl
  | p :: l, G, hs, hn, hp => by
    obtain ⟨n1, n2⟩ := List.nodup_cons.1 hn
    have h1 := tot_del hs p.1
    have ih := tot_dels l (G := del p.1 G) (srt_del hs p.1) n2 fun q hq => by
      rw [Dk.pgs_del, if_neg fun e => n1 (by show p.1 ∈ l.map (·.1); rw [← e]; exact List.mem_map_of_mem (f := fun p : Str × Nat => p.1) hq)]
      exact hp q (List.mem_cons_of_mem _ hq)
    rw [hp p List.mem_cons_self] at h1
    show tot ((l.map (·.1)).foldl (fun F f => del f F) (del p.1 G)) + (p.2 + (l.map (·.2)).sum) = tot G
    omega
theorem zip_sum : ∀ (a : List Nat) (b : List (List Wr)), a.length = b.length → ((a.zip b).map fun p => nparts (tabF p.2)).sum = tabP b
  | [], [], _ => rfl
  | [], _ :: _, h => by cases h
  | _ :: _, [], h => by cases h
  | x :: a, y :: b, h => by
    have := zip_sum a b (by simpa using h)
    unfold tabP at this ⊢
    simp only [List.zip_cons_cons, List.map_cons, List.sum_cons]
    omega
theorem TF.tot_join (t : TF nm F S) : tot ((S.names.map (nmF nm)).foldl (fun F f => del f F) (layF nm S.next (pagesOf (tabF S.whole)) (pagesOf (tabF (lstT [S.next] S.laid))) F)) + phi S = tot F + phi { S with names := [S.next], tabs := [S.whole] } := by
  have hs := (get_layF (nm := nm) t.srt S.next (pagesOf (tabF S.whole)) (pagesOf (tabF (lstT [S.next] S.laid))) nm)
  have h1 := tot_layF t S.next t.new_file (pagesOf (tabF S.whole)) (pagesOf (tabF (lstT [S.next] S.laid)))
  have hl := t.lens
  have hm1 : ((S.names.zip S.tabs).map fun p => (nmF nm p.1, nparts (tabF p.2))).map (·.1) = S.names.map (nmF nm) := by
    rw [List.map_map]
    have : ((fun p : Str × Nat => p.1) ∘ fun p : Nat × List Wr => (nmF nm p.1, nparts (tabF p.2))) = (nmF nm) ∘ Prod.fst := rfl
    rw [this, ← List.map_map, List.map_fst_zip (by omega)]
  have hm2 : (((S.names.zip S.tabs).map fun p => (nmF nm p.1, nparts (tabF p.2))).map (·.2)).sum = tabP S.tabs := by
    rw [List.map_map]
    exact zip_sum _ _ hl
  have hnd : (S.names.map (nmF nm)).Nodup := by
    refine List.pairwise_map.2 (t.inc.imp fun h1 h2 => ?_)
    rw [nmF_inj h2] at h1
    exact Nat.lt_irrefl _ h1
  have h2 := tot_dels ((S.names.zip S.tabs).map fun p => (nmF nm p.1, nparts (tabF p.2))) hs.1 (by rw [hm1]; exact hnd) fun q hq => by
    obtain ⟨p, hp, rfl⟩ := List.mem_map.1 hq
    obtain ⟨i, hi, e⟩ := List.getElem_of_mem hp
    rw [List.length_zip] at hi
    have e1 : S.names[i]? = some p.1 := by
      rw [List.getElem?_eq_getElem (by omega), ← e, List.getElem_zip]
    have e2 : S.tabs[i]? = some p.2 := by
      rw [List.getElem?_eq_getElem (by omega), ← e, List.getElem_zip]
    have hne : p.1 ≠ S.next := fun e3 => t.new_file (by rw [← e3]; exact List.mem_of_getElem? e1)
    dsimp only
    have : mGet (layF nm S.next (pagesOf (tabF S.whole)) (pagesOf (tabF (lstT [S.next] S.laid))) F) (nmF nm p.1) = some (pagesOf (tabF p.2)) := by
      rw [(get_layF t.srt _ _ _ _).2, if_neg (nmF_ne_L nm _), if_neg (nmF_ne_D nm _), if_neg fun e => hne (nmF_inj e)]
      exact t.files i _ _ e1 e2
    rw [pgs_some this, pagesOf_len]
  rw [hm1, hm2] at h2
  rw [pagesOf_len, pagesOf_len] at h1
  have h3 : phi { S with names := [S.next], tabs := [S.whole] } = npg (logB S.recs).length + nparts (tabF S.whole) + nparts (tabF (lstT [S.next] S.laid)) := by
    unfold phi lstN tabP
    dsimp only
    rw [if_neg (by simp)]
    simp
  rw [h3]
  unfold phi
  omega
end
structure Few (u : Nat) (S : TS) : Prop where
  names : 24 * S.names.length + S.mem.length ≤ u
  all : S.tabs.flatten.length + S.mem.length ≤ u
  next : S.next ≤ 2 * u
  last : S.last ≤ u
theorem wrB_len3 (k v : Str) (g : Bool) : (wrB ⟨k, v, g⟩).length = (uintB (gB ⟨k, v, g⟩)).length + (((uintB k.size).length + k.size) + ((uintB v.size).length + v.size)) := by
  unfold wrB
  rw [List.length_append, List.length_append, textB_len, textB_len]
theorem lstT_len2 {names : List Nat} {la : Nat} (hn : names.length ≤ 90) (hs : ∀ n ∈ names, n < 1000000) (hla : la < 1000000) : nparts (tabF (lstT names la)) ≤ 2 := by
  have he : ∀ w ∈ lstE names, (wrB w).length ≤ 10 := fun w hw => by
    obtain ⟨p, hp, rfl⟩ := List.mem_map.1 hw
    have hm : p.1 ∈ names := by
      have := (List.mem_zipIdx hp).2.2
      rw [this]; exact List.getElem_mem _
    have h1 := numS_size (k := 5) (n := p.1) (hs _ hm)
    have h2 : (⟨#[UInt8.ofNat p.2]⟩ : Str).size = 1 := rfl
    rw [wrB_len3, h2]
    have h3 := uintB_len 0 (gB ⟨⟨#[UInt8.ofNat p.2]⟩, numS p.1, false⟩) (by unfold gB; simp)
    have h4 := uintB_len 0 1 (by decide)
    have h5 := uintB_len 0 (numS p.1).size (by omega)
    omega
  have hl : (wrB ⟨laidKey, numS la, false⟩).length ≤ 20 := by
    have h1 := numS_size (k := 5) (n := la) hla
    have h2 : laidKey.size = 4 := rfl
    rw [wrB_len3, h2]
    have h3 := uintB_len 0 (gB ⟨laidKey, numS la, false⟩) (by unfold gB; simp)
    have h4 := uintB_len 0 4 (by decide)
    have h5 := uintB_len 0 (numS la).size (by omega)
    omega
  have hfl : ∀ (l : List Wr), (∀ w ∈ l, (wrB w).length ≤ 10) → (l.flatMap wrB).length ≤ 10 * l.length := fun l => by
    induction l with
    | nil => intro _; simp
    | cons w l ih =>
      intro h
      have h1 := h w List.mem_cons_self
      have h2 := ih fun x hx => h x (List.mem_cons_of_mem _ hx)
      rw [List.flatMap_cons, List.length_append, List.length_cons]
      omega
  have hE := hfl _ he
  have hEl : (lstE names).length = names.length := by unfold lstE; simp
  have hp : (plainB (lstT names la)).length ≤ 930 := by
    unfold plainB
    rw [lstT_eq la names (by omega), List.flatMap_append, List.length_append, List.length_append, List.length_append, hEl]
    have h1 := uintB_len 0 (names.length + [(⟨laidKey, numS la, false⟩ : Wr)].length) (by simp; omega)
    rw [List.flatMap_cons, List.flatMap_nil, List.append_nil]
    omega
  have hsz : (⟨(plainB (lstT names la)).toArray⟩ : Str).size = (plainB (lstT names la)).length := List.size_toArray ..
  have h2 := frameB_len ⟨(plainB (lstT names la)).toArray⟩
  rw [textB_len, hsz] at h2
  have h3 := uintB_len 1 (plainB (lstT names la)).length (by show _ < 128 ^ (1 + 1); have : (128 : Nat) ^ (1 + 1) = 16384 := by decide
                                                             omega)
  have h4 : (tabF (lstT names la)).length = (frameB ⟨(plainB (lstT names la)).toArray⟩).length := rfl
  unfold nparts
  omega
theorem tabP_le : ∀ (l : List (List Wr)), (∀ T ∈ l, (∀ w ∈ T, Fit w) ∧ T.length < 1000000) → 512 * tabP l ≤ 216 * l.flatten.length + 535 * l.length
  | [], _ => by simp [tabP]
  | T :: l, h => by
    have h1 := tabP_le l fun U hU => h U (List.mem_cons_of_mem _ hU)
    obtain ⟨hf, hl⟩ := h T List.mem_cons_self
    have h2 := (tabF_len hf hl).1
    have h3 : 512 * nparts (tabF T) ≤ (tabF T).length + 511 := by unfold nparts; omega
    have h4 : tabP (T :: l) = nparts (tabF T) + tabP l := rfl
    rw [h4, List.flatten_cons, List.length_append, List.length_cons]
    omega
theorem frameB_le {s : Str} (h : s.size < 1000000000) : (frameB s).length ≤ s.size + 14 := by
  have h1 := frameB_len s
  have h2 := uintB_len10 (n := s.size) (by omega)
  rw [textB_len] at h1
  omega
theorem logB_le : ∀ (r : List (Nat × List Wr)), (∀ p ∈ r, (∀ w ∈ p.2, Fit w) ∧ p.2.length < 1000000 ∧ p.1 < 4611686018427387904) → (logB r).length ≤ 216 * (r.map (·.2)).flatten.length + 44 * r.length
  | [], _ => Nat.le_refl _
  | p :: r, h => by
    have h1 := logB_le r fun q hq => h q (List.mem_cons_of_mem _ hq)
    obtain ⟨hf, hl, hn⟩ := h p List.mem_cons_self
    have h2 := recB_size hf hl hn
    have h3 := frameB_le (s := recB p.1 p.2) (by omega)
    have h4 : logB (p :: r) = frameB (recB p.1 p.2) ++ logB r := rfl
    rw [h4, List.length_append, List.map_cons, List.flatten_cons, List.length_append, List.length_cons]
    omega
section
variable {nm : Str} {F : Fs} {S : TS} {u : Nat}
theorem TF.recs_ok (t : TF nm F S) (f : Few u S) (hu : u ≤ 100000) : ∀ p ∈ S.recs, (∀ w ∈ p.2, Fit w) ∧ p.2.length < 1000000 ∧ p.1 < 4611686018427387904 := fun p hp => by
  have h1 := f.names
  have h2 := f.last
  refine ⟨t.fit p hp, ?_, ?_⟩
  · have : p.2.length ≤ S.mem.length := by
      rw [t.mem]
      exact (List.sublist_flatten_of_mem (List.mem_map_of_mem (f := fun p : Nat × List Wr => p.2) hp)).length_le
    omega
  · have h3 : p.1 ∈ S.recs.map (·.1) := List.mem_map_of_mem (f := fun p : Nat × List Wr => p.1) hp
    rw [t.nums, List.mem_range'] at h3
    obtain ⟨i, hi, e⟩ := h3
    unfold TS.last at h2
    omega
theorem TF.log_len (t : TF nm F S) (f : Few u S) (hu : u ≤ 100000) : (logB S.recs).length ≤ 260 * u := by
  have h1 := logB_le S.recs (t.recs_ok f hu)
  rw [← t.mem] at h1
  have h2 := f.names
  have h3 := f.last
  unfold TS.last at h3
  omega
theorem TF.phi_le (t : TF nm F S) (f : Few u S) (hu : u ≤ 2000) : phi S ≤ u + 4 := by
  have h1 := t.log_len f (by omega)
  have h2 := f.names
  have h3 := f.all
  have h4 := f.next
  have h5 := f.last
  have hln := t.lens
  have h6 := tabP_le S.tabs fun T hT => ⟨(t.tab T hT).2, by
    have : T.length ≤ S.tabs.flatten.length := (List.sublist_flatten_of_mem hT).length_le
    omega⟩
  have h7 : lstN S ≤ 2 := by
    unfold lstN
    split
    · omega
    · refine lstT_len2 (by omega) (fun n hn => ?_) (by unfold TS.last at h5; omega)
      have := next_new t.inc n hn
      omega
  unfold phi npg
  omega
theorem Few.app (f : Few u S) {l : List Wr} (hl : l ≠ []) (r : Nat × List Wr) : Few (u + l.length) { S with mem := S.mem ++ l, recs := S.recs ++ [r] } := by
  have hp : 0 < l.length := List.length_pos_iff.2 hl
  have h1 := f.names
  have h2 := f.all
  have h3 := f.next
  have h4 := f.last
  refine ⟨?_, ?_, ?_, ?_⟩
  · show 24 * S.names.length + (S.mem ++ l).length ≤ _
    rw [List.length_append]; omega
  · show S.tabs.flatten.length + (S.mem ++ l).length ≤ _
    rw [List.length_append]; omega
  · show S.next ≤ _
    omega
  · unfold TS.last at h4 ⊢
    show S.laid + (S.recs ++ [r]).length ≤ _
    rw [List.length_append, List.length_singleton]; omega
theorem under_no {nm f : Str} (h2 : ¬ under nm f) : f ≠ nmL nm ∧ f ≠ nmD nm ∧ ∀ n, f ≠ nmF nm n :=
  ⟨fun e => h2 (by rw [e]; exact nmL_under nm), fun e => h2 (by rw [e]; exact nmD_under nm), fun n e => h2 (by rw [e]; exact nmF_under nm n)⟩
theorem frame_lay (hs : SrtF F) (n : Nat) (P1 P2 : List Str) {f : Str} (h1 : f ≠ nm) (h2 : ¬ under nm f) : mGet (del nm (layF nm n P1 P2 F)) f = mGet F f := by
  rw [get_del, if_neg h1, (get_layF hs n P1 P2 f).2, if_neg (under_no h2).1, if_neg (under_no h2).2.1, if_neg ((under_no h2).2.2 n)]
theorem frame_join (hs : SrtF F) (n : Nat) (P1 P2 : List Str) (l : List Nat) {f : Str} (h2 : ¬ under nm f) : mGet ((l.map (nmF nm)).foldl (fun F f => del f F) (layF nm n P1 P2 F)) f = mGet F f := by
  have hl := (get_layF (nm := nm) hs n P1 P2 f)
  have hm : f ∉ l.map (nmF nm) := fun hm => by
    obtain ⟨k, _, e⟩ := List.mem_map.1 hm
    exact (under_no h2).2.2 k e.symm
  rw [(get_dels _ hl.1 f).2, if_neg hm, hl.2, if_neg (under_no h2).1, if_neg (under_no h2).2.1, if_neg ((under_no h2).2.2 n)]
theorem TF.frame {G : Fs} (t : TF nm F S) (hs : SrtF G) (h : ∀ f, f = nm ∨ under nm f → mGet G f = mGet F f) : TF nm G S := by
  refine ⟨hs, ?_, t.nums, t.mem, t.lens, t.inc, t.tab, t.fit, fun i n T h1 h2 => ?_, fun h1 => ?_, fun h1 => ?_, fun f hf hs => ?_⟩
  · unfold pgs
    rw [h nm (.inl rfl)]
    exact t.log
  · rw [h _ (.inr (nmF_under nm n))]; exact t.files i n T h1 h2
  · rw [h _ (.inr (nmL_under nm))]; exact t.noL h1
  · rw [h _ (.inr (nmL_under nm))]; exact t.list h1
  · rw [h f (.inr hf)] at hs; exact t.only f hf hs
theorem TF.new (hs : SrtF F) (h : ∀ f, f = nm ∨ under nm f → mGet F f = none) : TF nm F ⟨[], [], [], [], 0⟩ := by
  refine ⟨hs, ?_, rfl, rfl, rfl, List.Pairwise.nil, fun T hT => (by cases hT), fun r hr => (by cases hr), fun i n T h1 h2 => (by simp at h1), fun _ => ⟨h _ (.inr (nmL_under nm)), rfl⟩, fun h1 => absurd rfl h1, fun f hf hs => ?_⟩
  · rw [pgs_none (h nm (.inl rfl))]; rfl
  · rw [h f (.inr hf)] at hs; cases hs
theorem Few.new : Few 0 ⟨[], [], [], [], 0⟩ := ⟨Nat.le_refl _, Nat.le_refl _, Nat.le_refl _, Nat.le_refl _⟩
theorem Few.lay (f : Few u S) (h24 : 24 ≤ S.mem.length) (hn : S.next + 1 ≤ 2 * u) : Few u ⟨[], S.names ++ [S.next], S.tabs ++ [ofL S.mem], [], S.last⟩ := by
  have h1 := f.names
  have h2 := f.all
  have h4 := f.last
  have h5 := ofL_len S.mem
  refine ⟨?_, ?_, ?_, ?_⟩
  · show 24 * (S.names ++ [S.next]).length + 0 ≤ u
    rw [List.length_append, List.length_singleton]; omega
  · show (S.tabs ++ [ofL S.mem]).flatten.length + 0 ≤ u
    have : (S.tabs ++ [ofL S.mem]).flatten = S.tabs.flatten ++ ofL S.mem := by rw [List.flatten_append]; simp
    rw [this, List.length_append]; omega
  · show (match (S.names ++ [S.next]).getLast? with | none => 0 | some n => n + 1) ≤ _
    have : (S.names ++ [S.next]).getLast? = some S.next := by simp
    rw [this]; exact hn
  · exact h4
theorem Few.join (f : Few u S) (hne : 1 ≤ S.names.length) (hn : S.next + 1 ≤ 2 * u) : Few u { S with names := [S.next], tabs := [S.whole] } := by
  have h1 := f.names
  have h2 := f.all
  have h4 := f.last
  have h5 := ofL_len S.tabs.flatten
  have h6 := List.length_filter_le (fun w : Wr => !w.gone) (ofL S.tabs.flatten)
  refine ⟨?_, ?_, ?_, ?_⟩
  · show 24 * [S.next].length + S.mem.length ≤ u
    rw [List.length_singleton]; omega
  · show [S.whole].flatten.length + S.mem.length ≤ u
    have : [S.whole].flatten = S.whole := by simp
    rw [this]
    show ((ofL S.tabs.flatten).filter fun w => !w.gone).length + _ ≤ u
    omega
  · exact hn
  · exact h4
end
end Go.Ls
end

section
set_option maxRecDepth 100000
namespace Go.Proofs.YtkhinnchplahlaaGreatDoor
open Go Go.Vc Go.Proofs Go.Dk Go.Kv Go.Ls Go.Cd
open Go.Pg (Quiet Nx layW partB nparts partsW partsW_len)

section
variable {g g1 g2 : Nat → Nat} {h h1 h2 : Heap} {t d : Nat} {nm : Str} {w1 w2 : Tw} {x1 x2 : D} {N : Nat → Prop}
theorem Trs.trans (a : Trs g N h t d nm w1 x1 g1 h1) (b : Trs g1 (fun q => N q ∨ g1 q ≠ 0) h1 t d nm w2 x2 g2 h2) (hg : ∀ q, g q ≠ 0 → N q) : Trs g N h t d nm w2 x2 g2 h2 := by
  have hs := a.up.size
  refine ⟨b.tr, b.dn.sub fun q hq => hq.elim (fun h => .inl (.inl h)) .inr, fun q hq => by rw [b.ext q (by omega), a.ext q hq], ?_⟩
  refine a.up.trans' b.up fun q hq h3 => ?_
  rw [a.ext q hq] at h3
  rcases h3 with h3 | h3
  · exact .inl fun h4 => h3 (.inl h4)
  · exact .inr h3
theorem Trs.keep (a : Trs g N h t d nm w1 x1 g1 h1) (k : Keep h1.size h1 h2) : Trs g N h t d nm w1 x1 g1 h2 :=
  ⟨a.tr.keep k, a.dn.keep k, a.ext, a.up.trans k.m⟩
end
open Classical in
/-- what new blocks are for. -/
noncomputable def tagA (g : Nat → Nat) (a e : Nat) (A B : Option Addr) (q : Nat) : Nat := if q < a then g q else if blk A q then 5 else if q = e ∧ blk B q then 3 else 0
section
variable {g : Nat → Nat} {a e q : Nat} {A B : Option Addr}
theorem tagA_old (h : q < a) : tagA g a e A B q = g q := if_pos h
theorem tagA_5 (h1 : a ≤ q) (h2 : blk A q) : tagA g a e A B q = 5 := by unfold tagA; rw [if_neg (by omega), if_pos h2]
theorem tagA_3 (h1 : a ≤ q) (h2 : ¬ blk A q) (h3 : q = e ∧ blk B q) : tagA g a e A B q = 3 := by unfold tagA; rw [if_neg (by omega), if_neg h2, if_pos h3]
theorem tagA_ne (h : tagA g a e A B q ≠ 0) : (q < a ∧ g q ≠ 0) ∨ blk A q ∨ (q = e ∧ blk B q) := by
  unfold tagA at h
  by_cases h1 : q < a
  · rw [if_pos h1] at h; exact .inl ⟨h1, h⟩
  · rw [if_neg h1] at h
    by_cases h2 : blk A q
    · exact .inr (.inl h2)
    · rw [if_neg h2] at h
      by_cases h3 : q = e ∧ blk B q
      · exact .inr (.inr h3)
      · rw [if_neg h3] at h; exact absurd rfl h
end
def appS (T : TS) (l : List Wr) : TS := { T with mem := T.mem ++ l, recs := T.recs ++ [(T.last + 1, l)] }
theorem appS_last (T : TS) (l : List Wr) : (appS T l).last = T.last + 1 := by
  unfold TS.last appS
  dsimp only
  rw [List.length_append, List.length_singleton]; omega
theorem appS_tw (T : TS) (l : List Wr) : tw (appS T l) = ⟨logB T.recs ++ frameB (recB (T.last + 1) l), T.mem ++ l, T.names, T.tabs, T.next, T.last + 1, T.laid⟩ := by
  unfold tw
  rw [appS_last]
  unfold appS
  dsimp only
  rw [logB_snoc]
  rfl
structure ApS (T : TS) (x : D) (l : List Wr) (u : Nat) (nm : Str) (T' : TS) (x' : D) : Prop where
  tf : TF nm x'.now T'
  q : Quiet x'
  room : x'.room = x.room
  pairs : T'.pairs = doneAll T.pairs l
  few : Few (u + l.length) T'
  oth : ∀ f, f ≠ nm → ¬ under nm f → mGet x'.now f = mGet x.now f
  waits : x'.waits.length ≤ x.waits.length + 102000
  tot : tot x'.now + phi T = tot x.now + phi T'
  tabs : 2000 ≤ Dk.free x → T.tabs.length ≤ 3 → T'.tabs.length ≤ 3
  small : T.mem.length + l.length < 24 → T.tabs.length < 4 → x'.safe = x.safe ∧ x'.waits.length ≤ x.waits.length + 1000 ∧ T' = appS T l ∧ x'.now = put nm (lpages (logB T.recs ++ frameB (recB (T.last + 1) l))) x.now
theorem layW_safe (n : Str) : ∀ (W : Pg.Rw) {x : D}, Quiet x → (layW n W x).2.safe = x.safe
  | [], x, _ => rfl
  | p :: W, x, q => by
    have e : layW n (p :: W) x = if (write x n p.1 p.2).1 ≠ 0 then write x n p.1 p.2 else layW n W (write x n p.1 p.2).2 := rfl
    have hw : (write x n p.1 p.2).2.safe = x.safe ∧ Quiet (write x n p.1 p.2).2 := by
      unfold write
      by_cases h1 : x.down = true
      · rw [q.down] at h1; cases h1
      rw [if_neg h1]
      by_cases h2 : 512 < p.2.size
      · rw [if_pos h2]; exact ⟨rfl, q⟩
      rw [if_neg h2]
      by_cases h3 : p.1 < 0 ∨ ((pgs x.now n).length : Int) < p.1
      · rw [if_pos h3]; exact ⟨rfl, q⟩
      rw [if_neg h3]
      by_cases h4 : p.1 = (pgs x.now n).length ∧ Dk.free x < 1
      · rw [if_pos h4]; exact ⟨rfl, q⟩
      rw [if_neg h4]
      have hg : goes x = false := Pg.goes_quiet q
      dsimp only
      rw [if_neg (by rw [hg]; decide)]
      exact ⟨rfl, q.down, by show x.fuse - 1 = 0; rw [q.fuse]⟩
    rw [e]
    split
    · exact hw.1
    · rw [layW_safe n W hw.2]; exact hw.1
theorem long_fit {l : List Wr} (h : long l = false) : (∀ w ∈ l, Fit w) ∧ l.length ≤ 1024 := by
  have h1 : (l.any (fun w => decide (48 < w.key.size) || decide (160 < w.val.size)) || decide (1024 < l.length)) = false := h
  rw [Bool.or_eq_false_iff] at h1
  refine ⟨fun w hw => ?_, by have := of_decide_eq_false h1.2; omega⟩
  have := List.any_eq_false.1 h1.1 w hw
  simp at this
  exact ⟨by omega, by omega⟩
section
variable {g : Nat → Nat} {h h' : Heap} {t d n c u : Nat} {nm : Str} {A : Option Addr} {N : Nat → Prop} {x : D} {l : List Wr}
set_option maxHeartbeats 4000000 in
theorem lapply_spec {T : TS} (p : TrAt g h t d nm (tw T)) (hnm : nm.size ≤ 1000000) (tab : TabH h) (gbN : N gb ∧ g gb = 0) (dn : DN N d x h) (gN : ∀ q, g q ≠ 0 → N q) (tf : TF nm x.now T) (hq : Quiet x)
    (fw : Few u T) (hu : long l = false → u + n ≤ 1100) (hs : Sl WrE h A n l) (hc : n ≤ c) (hn : n ≤ 9223372036854775807) (hA : n ≠ 0 → ∀ q, blk A q → N q ∧ g q = 0) (hww : x.waits.length ≤ 89000000) (hroom : x.room ≤ 100000000) :
    HC Tryz.prog 13 #[.pointer (some ⟨t, 0, none⟩), .slice A n c] h fun vv h' =>
      (long l = true ∧ vv = .int .i64 3 ∧ Keep h.size h h') ∨ (long l = false ∧ l = [] ∧ vv = .int .i64 0 ∧ Keep h.size h h') ∨
      (long l = false ∧ l ≠ [] ∧ vv = .int .i64 7 ∧ Keep h.size h h' ∧ ¬ 2000 ≤ Dk.free x ∧ Dk.free x < ((npg (logB T.recs ++ frameB (recB (T.last + 1) l)).length : Nat) : Int) - npg (logB T.recs).length) ∨
      (long l = false ∧ l ≠ [] ∧ vv = .int .i64 0 ∧ ∃ g' x' T', Trs g N h t d nm (tw T') x' g' h' ∧ ApS T x l u nm T' x') := by
  obtain ⟨lg, B, bn, bc, v, pp⟩ := p
  have p := pp.core
  have hl := hs.1
  have htot := dn.ok.tot
  have hfr0 : 0 ≤ Dk.free x := by unfold Dk.free; omega
  have hfle : Dk.free x ≤ 100000000 := by unfold Dk.free; omega
  refine HC_of_vc (args := [.pointer (some ⟨t, 0, none⟩), .slice A n c]) (base := 73) (cuts := []) (bigs := []) kM Tryz.func13 ?_
  rw [vcLmApply]
  have hlong : long l = (l.any (fun w => decide (48 < w.key.size) || decide (160 < w.val.size)) || decide (1024 < l.length)) := rfl
  refine ⟨_, reads_eql_nil uTr, br_intro (fun e => by cases e) fun _ => br_intro (fun e => ?_) fun e => .inl ⟨?_, rfl, Keep.refl _ _⟩⟩
  rotate_left
  · have hn2 : (n : Int) > 1024 := by
      by_cases h : (n : Int) > 1024
      · exact h
      · simp [h] at e
    rw [hlong, decide_eq_true (by omega : 1024 < l.length)]; simp
  have hn2 : ¬ (n : Int) > 1024 := by
    by_cases h : (n : Int) > 1024
    · simp [h] at e
    · exact h
  have e2 : decide (1024 < l.length) = false := decide_eq_false (by omega)
  rw [e2, Bool.or_false] at hlong
  refine (contW_spec (p := fun w => decide (48 < w.key.size) || decide (160 < w.val.size)) hs (by omega) (by kernel_rfl) lmlong_spec).mono ?_
  rintro vv h2 ⟨k2, rfl⟩
  rw [← hlong]
  refine ⟨_, rfl, br_intro (fun e3 => .inl ⟨e3, rfl, k2⟩) fun e3 => br_intro (fun e4 => .inr (.inl ⟨e3, ?_, rfl, k2⟩)) fun e4 => ?_⟩
  · have : n = 0 := by
      have : ((n : Nat) : Int) = 0 := by simpa using e4
      omega
    exact List.eq_nil_of_length_eq_zero (by omega)
  have hn0 : n ≠ 0 := by
    intro h0
    rw [h0] at e4; simp at e4
  have hlne : l ≠ [] := fun h0 => hn0 (by rw [← hl, h0]; rfl)
  obtain ⟨hfit, hl1024⟩ := long_fit e3
  have hu := hu e3
  have hwl := fw.last
  have hwn := fw.next
  have p2 := p.keep k2
  have tab2 := tab.updM k2.m (S := fun _ => False) id
  have hla2 : IntKind.i64.wrap ((((tw T).la : Nat) : Int) + (1 : Int)) = ((T.last + 1 : Nat) : Int) := by
    show IntKind.i64.wrap ((T.last : Int) + 1) = _
    rw [wrap_i64 (by omega) (by omega)]; rfl
  refine ⟨fun H => Keep h2.size h2 H, Keep.refl _ _, _, rfl, _, fun H kH => (p2.keep kH).rl, _, rfl, _, p2.rla, ?_⟩
  rw [hla2]
  refine (bytes_spec (m := T.last + 1) (hs.keep k2) (by omega) hfit (by omega)).mono ?_
  rintro vv h11 ⟨k11, rfl⟩
  refine ⟨_, rfl, k11, svc_buildSlice (bs_s (recB (T.last + 1) l)) ⟨_, _, _, rfl, ?_⟩⟩
  have kp := keep_push h11 (.cells ([Value.string (recB (T.last + 1) l)]).toArray 9 (0, 0))
  have sR : Sl StrE _ (some ⟨h11.size, 0, none⟩) 1 [recB (T.last + 1) l] := (own_box (E := StrE) (n := 1) (xs := [recB (T.last + 1) l]) rfl (Nat.le_refl h11.size) (push_at h11 (.cells ([Value.string (recB (T.last + 1) l)]).toArray 9 (0, 0)))).sl
  generalize h11.push (.cells ([Value.string (recB (T.last + 1) l)]).toArray 9 (0, 0)) = h14 at kp sR
  have k214 := k11.trans (kp.mono k11.size)
  have k014 := k2.trans (k214.mono k2.size)
  have z014 := k014.size
  have hrs := recB_size (n := T.last + 1) hfit (by omega) (by omega)
  have hfs := frameB_le (s := recB (T.last + 1) l) (by omega)
  have hll := tf.log_len fw (by omega)
  have nlg : N lg := gN lg (by rw [pp.gl]; decide)
  refine ⟨k214, (lappend_spec (pp.log.keep k014) (dn.keep k014) nlg (fun h0 q hq => gN q (by rw [pp.gA h0 q hq]; decide)) sR hq tf.log (by omega) (by show (logB T.recs).length + _ ≤ _; omega) (by omega) ⟨by omega, by omega⟩).mono ?_⟩
  rintro vv h19 hv
  have hpos : 0 < (frameB (recB (T.last + 1) l)).length := by have := frameB_len (recB (T.last + 1) l); omega
  have fw1 : Few (u + l.length) (appS T l) := fw.app hlne _
  have tf1 : TF nm (put nm (lpages (logB T.recs ++ frameB (recB (T.last + 1) l))) x.now) (appS T l) := tf.append hfit
  rcases hv with ⟨rfl, hfr, k19⟩ | ⟨rfl, hfr, B', bn', bc', l19, d19, hB', u19⟩
  · -- no room
    refine ⟨_, rfl, br_intro (fun _ => .inr (.inr (.inl ⟨e3, hlne, rfl, k014.trans (k19.mono z014), fun hb => ?_, hfr⟩))) fun e => by cases e⟩
    have hphi := tf1.phi_le fw1 (by omega)
    have h5 : npg (logB T.recs ++ frameB (recB (T.last + 1) l)).length ≤ phi (appS T l) := by
      unfold phi appS
      dsimp only
      rw [logB_snoc]
      omega
    have hno : Dk.free x < ((npg (logB T.recs ++ frameB (recB (T.last + 1) l)).length : Nat) : Int) - npg (logB T.recs).length := hfr
    omega
  have hfr : ((npg (logB T.recs ++ frameB (recB (T.last + 1) l)).length : Nat) : Int) - npg (logB T.recs).length ≤ Dk.free x := hfr
  obtain ⟨hW0, kN, hNx⟩ := log_app (c := frameB (recB (T.last + 1) l)) hq dn.ok.now tf.log (by intro h; rw [h] at hpos; simp at hpos) hfr
  have hsafe := layW_safe nm (lgW (logB T.recs ++ frameB (recB (T.last + 1) l)) ((logB T.recs).length / 510)) hq
  have hwW := Pg.layW_waits nm (lgW (logB T.recs ++ frameB (recB (T.last + 1) l)) ((logB T.recs).length / 510)) x
  have hWl : (lgW (logB T.recs ++ frameB (recB (T.last + 1) l)) ((logB T.recs).length / 510)).length ≤ 1000 := by
    unfold lgW
    rw [List.length_map, List.length_range', List.length_append]
    unfold npg
    omega
  have d19 : DN (fun q => N q ∨ blk B' q) d (layW nm (lgW (logB T.recs ++ frameB (recB (T.last + 1) l)) ((logB T.recs).length / 510)) x).2 h19 := d19
  have l19 : LogAt h19 lg d nm B' bn' bc' (logB T.recs ++ frameB (recB (T.last + 1) l)) := l19
  generalize (layW nm (lgW (logB T.recs ++ frameB (recB (T.last + 1) l)) ((logB T.recs).length / 510)) x).2 = x1 at d19 hNx hwW hsafe
  have u019 : UpdM (fun q => ¬ N q ∨ q = lg) h h19 := k014.m.trans u19
  have hs19 : ∀ {q k : Nat}, g q = k → k ≠ 0 → k ≠ 2 → ¬ (¬ N q ∨ q = lg) := fun {q k} e1 e2 e3 e4 => e4.elim (fun h => h (gN q (by rw [e1]; exact e2))) fun h => by rw [h, pp.gl] at e1; exact e3 e1.symm
  have c19 : TrC g h19 t d nm (some ⟨lg, 0, none⟩) v (tw T) := by
    refine ⟨u019.cells p.box (hs19 p.gt (by decide) (by decide)), p.mem.updM u019 fun q hq => hs19 (p.gm q hq) (by decide) (by decide), p.nms.updM u019 fun q hq => hs19 (p.gn q hq) (by decide) (by decide), p.tbl.updM u019 fun q hq => hs19 (p.gT q hq) (by decide) (by decide),
      p.tbs.updM u019 fun q hq => hs19 hq (by decide) (by decide), p.gt, p.gm, p.gn, p.gT, fun q hq => Nat.lt_of_lt_of_le (p.lt q hq) u019.size⟩
  have z19 := u19.size
  have a19 : Sl WrE h19 A n l := (hs.keep k014).updM u19 fun h0 q hq h5 => by
    obtain ⟨h6, h7⟩ := hA h0 q hq
    rcases h5 with h5 | h5
    · exact h5 h6
    · rw [h5, pp.gl] at h7; cases h7
  have hmm : (tw T).mem = T.mem := rfl
  have hkm := p.mem.1
  rw [hmm] at hkm
  have hwm := fw.all
  refine ⟨_, rfl, br_intro (fun e => by cases e) fun _ => ⟨fun H => H[t]? = some (trBox d nm (some ⟨lg, 0, none⟩) v (tw T)), c19.box, _, rfl, _, _, _, c19.rm, svc_append app_wr c19.mem (Nat.zero_le _) a19 (by show (4 * (v.km + n) + 192) * 40 ≤ 2 ^ 48; omega) fun a28 k30 h27 o27 u27 b27 => ⟨_, _, _, rfl, ?_⟩⟩⟩
  have ntM : ¬ blk v.am t := fun hq => by have := p.gm _ hq; rw [p.gt] at this; cases this
  have b27t := u27.at c19.box ntM
  have z27 := u27.size
  refine ⟨b27t, _, rfl, _, fun H bH => reads_load kI (cell_cells bH rfl), _, rfl, ?_⟩
  refine svc_store_box (k := 3) zWs b27t (by simp) rfl (one_slice _ _ _) fun h36 z36 b36 u36 => ⟨_, rfl, ?_⟩
  rw [hla2]
  refine svc_store_box (k := 7) kzI b36 (by simp) rfl (one_int _ _) fun h39 z39 b39 u39 => ⟨_, rfl, ?_⟩
  have ut : Upd (fun q => q = t) h27 h39 := u36.trans u39
  have b39' : h39[t]? = some (trBox d nm (some ⟨lg, 0, none⟩) ⟨a28, v.km + n, k30, v.an, v.kn, v.cn, v.aT, v.kT, v.cT, v.ts⟩ (tw (appS T l))) := by rw [b39, appS_tw]; rfl
  have hltT := p.lt
  have htlt := p.lt t (by rw [p.gt]; decide)
  have hllt := p.lt lg (by rw [pp.gl]; decide)
  have zut := ut.size
  have tnN : N t := gN t (by rw [p.gt]; decide)
  obtain ⟨g1, hg1⟩ : ∃ g1, g1 = tagA g h.size h19.size B' a28 := ⟨_, rfl⟩
  have gold : ∀ {q}, q < h.size → g1 q = g q := fun h1 => by rw [hg1]; exact tagA_old h1
  have gB : ∀ {q}, blk B' q → g1 q = 5 := fun h1 => by rw [hg1]; exact tagA_5 (by have := (hB' _ h1).1; omega) h1
  have g3 : ∀ {q}, q = h19.size → blk a28 q → g1 q = 3 := fun h1 h2 => by rw [hg1]; exact tagA_3 (by omega) (fun h3 => by have := (hB' _ h3).2; omega) ⟨h1, h2⟩
  have gne : ∀ {q}, g1 q ≠ 0 → (q < h.size ∧ g q ≠ 0) ∨ blk B' q ∨ (q = h19.size ∧ blk a28 q) := fun h1 => by rw [hg1] at h1; exact tagA_ne h1
  have u2739 : UpdM (fun q => g q = 3 ∨ q = t) h19 h39 := ((u27.mono (T := fun q => g q = 3 ∨ q = t) fun q hq => .inl (p.gm q hq)).m).trans (ut.mono fun q e => .inr e).m
  have n39 : ∀ {q k : Nat}, g q = k → k ≠ 1 → k ≠ 3 → ¬ (g q = 3 ∨ q = t) := fun {q k} e1 e2 e3 e4 => e4.elim (fun h => by rw [h] at e1; exact e3 e1.symm) fun h => by rw [h, p.gt] at e1; exact e2 e1.symm
  have P39 : TrP g1 h39 t d nm lg B' bn' bc' ⟨a28, v.km + n, k30, v.an, v.kn, v.cn, v.aT, v.kT, v.cT, v.ts⟩ (tw (appS T l)) := by
    refine ⟨⟨b39', ?_, ?_, ?_, ?_, ?_, fun q hq => ?_, fun q hq => ?_, fun q hq => ?_, fun q hq => ?_⟩, ?_, ?_, fun h0 q hq => gB hq⟩
    · rw [appS_tw]
      refine o27.upd ut fun q hq e => ?_
      rcases b27 q hq with h5 | h5
      · rw [e] at h5; exact ntM h5
      · omega
    · rw [appS_tw]
      exact c19.nms.updM u2739 fun q hq => n39 (p.gn q hq) (by decide) (by decide)
    · exact c19.tbl.updM u2739 fun q hq => n39 (p.gT q hq) (by decide) (by decide)
    · rw [appS_tw]
      exact (c19.tbs.updM u2739 fun q hq => n39 hq (by decide) (by decide)).mono fun q hq => by rw [gold (hltT q (by rw [hq]; decide))]; exact hq
    · rw [gold htlt]; exact p.gt
    · rcases b27 q hq with h5 | h5
      · rw [gold (hltT q (by rw [p.gm q h5]; decide))]; exact p.gm q h5
      · exact g3 h5 hq
    · rw [gold (hltT q (by rw [p.gn q hq]; decide))]; exact p.gn q hq
    · rw [gold (hltT q (by rw [p.gT q hq]; decide))]; exact p.gT q hq
    · rcases gne hq with h5 | h5 | h5
      · omega
      · have := hB' q h5; omega
      · have := o27.block q h5.2; omega
    · rw [appS_tw]
      refine l19.updM u2739 (n39 pp.gl (by decide) (by decide)) fun h0 q hq h5 => ?_
      have h6 := (hB' q hq).1
      rcases h5 with h5 | h5
      · have := hltT q (by rw [h5]; decide); omega
      · omega
    · rw [gold hllt]; exact pp.gl
  have dn39 : DN (fun q => N q ∨ g1 q ≠ 0) d x1 h39 := by
    refine d19.own u2739 (fun q _ h5 => h5.elim (fun h => .inl (gN q (by rw [h]; decide))) fun h => .inl (by rw [h]; exact tnN)) fun q hq => ?_
    rcases hq with hq | hq
    · exact ⟨.inl (.inl hq), by have := dn.lt hq; omega⟩
    · rcases gne hq with h5 | h5 | h5
      · exact ⟨.inl (.inl (gN q h5.2)), by omega⟩
      · exact ⟨.inl (.inr h5), by have := hB' q h5; omega⟩
      · exact ⟨.inr (by omega), by have := o27.block q h5.2; omega⟩
  have tr39 : Trs g N h t d nm (tw (appS T l)) x1 g1 h39 := by
    refine ⟨⟨lg, B', bn', bc', _, P39⟩, dn39, fun q hq => gold hq, ?_⟩
    refine (u019.mono fun q h5 => ?_).trans (u2739.mono fun q h5 => ?_)
    · exact h5.imp id fun e => .inr (.inl (by rw [e]; exact pp.gl))
    · rcases h5 with h5 | h5
      · exact .inr (.inr (.inr (.inl h5)))
      · exact .inr (.inl (by rw [h5]; exact p.gt))
  have hgbl : gb < h.size := dn.lt gbN.1
  have ap1 : ApS T x l u nm (appS T l) x1 := by
    refine ⟨by rw [hNx.now]; exact tf1, hNx.q, hNx.room, T.append_pairs l _, fw1, fun f h5 _ => by rw [hNx.now, get_put dn.ok.now, if_neg h5], by omega, by rw [hNx.now]; exact tf.tot_append l, fun _ h5 => h5, fun _ _ => ⟨hsafe, by omega, rfl, hNx.now⟩⟩
  have hNx1 := hNx.room
  -- a step more
  have gbT : ∀ {w' : Tw} {x' : D} {g' : Nat → Nat} {h' : Heap}, Trs g N h t d nm w' x' g' h' → ((N gb ∨ g' gb ≠ 0) ∧ g' gb = 0) ∧ TabH h' := fun tr => by
    refine ⟨⟨.inl gbN.1, by rw [tr.ext gb hgbl]; exact gbN.2⟩, tab.updM tr.up fun h5 => ?_⟩
    rw [gbN.2] at h5
    rcases h5 with h5 | h5 | h5 | h5 | h5
    · exact h5 gbN.1
    · cases h5
    · cases h5
    · cases h5
    · cases h5
  have frI : ∀ {T' : TS} {x' : D} {w' : Tw} {g' : Nat → Nat} {h' : Heap}, ApS T x l u nm T' x' → Trs g N h t d nm w' x' g' h' → 0 ≤ Dk.free x' ∧ x'.room ≤ 100000000 := fun ap tr => by
    have h5 := tr.dn.ok.tot
    have h6 := ap.room
    exact ⟨by unfold Dk.free; omega, by omega⟩
  have fin : ∀ {T2 : TS} {x2 : D} {g2 : Nat → Nat} {h2 : Heap}, Trs g N h t d nm (tw T2) x2 g2 h2 → TF nm x2.now T2 → Quiet x2 → x2.room = x.room → T2.pairs = doneAll T.pairs l → Few (u + l.length) T2 → T2.next + 1 ≤ 2 * (u + l.length) → (∀ f, f ≠ nm → ¬ under nm f → mGet x2.now f = mGet x.now f) → x2.waits.length ≤ x.waits.length + 51500 → tot x2.now + phi T = tot x.now + phi T2 → (T.tabs.length ≤ 3 → T2.tabs.length ≤ 4) → (T.mem.length + l.length < 24 → T.tabs.length < 4 → T2.tabs.length < 4 ∧ x2.safe = x.safe ∧ x2.waits.length ≤ x.waits.length + 1000 ∧ T2 = appS T l ∧ x2.now = put nm (lpages (logB T.recs ++ frameB (recB (T.last + 1) l))) x.now) →
      ∃ (p54 : Addr), some (Addr.mk t (0 : Nat) none) = some p54 ∧ ∃ (a55 : Option Addr), ∃ (k56 : Nat), ∃ (k57 : Nat), Reads Tryz.prog (Instr.loadAt 80 (Value.pointer (some (p54.add (5 : Nat))))) h2 (Value.slice a55 k56 k57) ∧
        br (decide ((↑k56 : Int) ≥ (4 : Int)))
          (HC Tryz.prog 44 (Array.mk [Value.pointer (some (Addr.mk t (0 : Nat) none))]) h2 fun (v58 : Value) (h59 : Heap) => ∃ (n60 : Int), v58 = Value.int IntKind.i64 n60 ∧
            ((long l = true ∧ Value.int IntKind.i64 n60 = .int .i64 3 ∧ Keep h.size h h59) ∨ (long l = false ∧ l = [] ∧ Value.int IntKind.i64 n60 = .int .i64 0 ∧ Keep h.size h h59) ∨
              (long l = false ∧ l ≠ [] ∧ Value.int IntKind.i64 n60 = .int .i64 7 ∧ Keep h.size h h59 ∧ ¬ 2000 ≤ Dk.free x ∧ Dk.free x < ((npg (logB T.recs ++ frameB (recB (T.last + 1) l)).length : Nat) : Int) - npg (logB T.recs).length) ∨
              (long l = false ∧ l ≠ [] ∧ Value.int IntKind.i64 n60 = .int .i64 0 ∧ ∃ g' x' T', Trs g N h t d nm (tw T') x' g' h59 ∧ ApS T x l u nm T' x')))
          ((long l = true ∧ Value.int IntKind.i64 0 = .int .i64 3 ∧ Keep h.size h h2) ∨ (long l = false ∧ l = [] ∧ Value.int IntKind.i64 0 = .int .i64 0 ∧ Keep h.size h h2) ∨
              (long l = false ∧ l ≠ [] ∧ Value.int IntKind.i64 0 = .int .i64 7 ∧ Keep h.size h h2 ∧ ¬ 2000 ≤ Dk.free x ∧ Dk.free x < ((npg (logB T.recs ++ frameB (recB (T.last + 1) l)).length : Nat) : Int) - npg (logB T.recs).length) ∨
              (long l = false ∧ l ≠ [] ∧ Value.int IntKind.i64 0 = .int .i64 0 ∧ ∃ g' x' T', Trs g N h t d nm (tw T') x' g' h2 ∧ ApS T x l u nm T' x')) := by
    intro T2 x2 g2 h2 tr tf2 q2 r2 pr2 fw2 nx2 ot2 w2 to2 tb2 sm2
    obtain ⟨lg2, B2, bn2, bc2, v2, P2⟩ := tr.tr
    have hTl : v2.kT = T2.tabs.length := by
      have h5 := P2.core.tbl.1
      have h6 : v2.ts.length = T2.tabs.length := P2.core.tbs.1
      omega
    have fall := fw2.all
    have fnm := fw2.names
    have fnx := fw2.next
    have fla := fw2.last
    have hns := next_new tf2.inc
    have htot2 := tr.dn.ok.tot
    refine ⟨_, rfl, _, _, _, P2.core.rt, br_intro (fun e5 => ?_) fun e5 => .inr (.inr (.inr ⟨e3, hlne, rfl, g2, x2, T2, tr, ⟨tf2, q2, r2, pr2, fw2, ot2, by omega, to2, fun _ h5 => ?_, fun h5 h6 => (sm2 h5 h6).2⟩⟩))⟩
    · have e5 := of_decide_eq_true e5
      have h7 : T2.laid < 1000000 := by unfold TS.last at fla; omega
      have h8 : nparts (tabF (lstT [T2.next] T2.laid)) ≤ 2 := lstT_len2 (by simp) (fun n hn => by rw [List.mem_singleton.1 hn]; omega) h7
      refine (join_spec tr.tr hnm (gbT tr).2 (gbT tr).1 tr.dn (fun q hq => .inr hq) tf2 q2 (by omega) (by omega) (by omega) h7 h8 (by omega) (by omega) (by unfold Dk.free; omega)).mono ?_
      rintro vv h59 ⟨rfl, hv⟩
      refine ⟨_, rfl, .inr (.inr (.inr ⟨e3, hlne, rfl, ?_⟩))⟩
      rcases hv with ⟨hnr, k59⟩ | ⟨hr, g3, x3, tr3, q3, r3, now3, w3⟩
      · refine ⟨g2, x2, T2, tr.keep k59, ⟨tf2, q2, r2, pr2, fw2, ot2, by omega, to2, fun hb h5 => ?_, fun h5 h6 => (sm2 h5 h6).2⟩⟩
        -- there was room
        have h6 := tb2 h5
        have hphi := tf2.phi_le fw2 (by omega)
        have hwf : ∀ w ∈ T2.whole, Fit w := fun w hw => ofL_fit (fun w hw => by
          obtain ⟨U, hU, hw⟩ := List.mem_flatten.1 hw
          exact (tf2.tab U hU).2 w hw) w (List.mem_filter.1 hw).1
        have hwl : T2.whole.length ≤ T2.tabs.flatten.length := by
          have h1 := ofL_len T2.tabs.flatten
          have h2 := List.length_filter_le (fun w : Wr => !w.gone) (ofL T2.tabs.flatten)
          show ((ofL T2.tabs.flatten).filter fun w => !w.gone).length ≤ _
          omega
        have htl := tabF_len hwf (by omega)
        unfold Dk.free at hnr hb
        omega
      · have hw : Tab T2.whole := ⟨tab_filter (ofL_tab _) _, fun w hw => (ofL_tab _).2 w (List.mem_filter.1 hw).1⟩
        refine ⟨g3, x3, joinS T2, tr.trans tr3 gN, ⟨by rw [now3]; exact tf2.join hw, q3, by rw [r3, r2], by rw [← pr2]; exact T2.join_pairs, fw2.join (by have := tf2.lens; omega) nx2, fun f h5 h6 => ?_, by omega, ?_, fun _ _ => by show [T2.whole].length ≤ 3; simp, fun h5 h6 => ?_⟩⟩
        · rw [now3, frame_join tr.dn.ok.now _ _ _ _ h6]; exact ot2 f h5 h6
        · have h7 := tf2.tot_join
          have h8 : x3.now = (T2.names.map (nmF nm)).foldl (fun F g => del g F) (layF nm T2.next (pagesOf (tabF T2.whole)) (pagesOf (tabF (lstT [T2.next] T2.laid))) x2.now) := now3
          rw [← h8] at h7
          show tot x3.now + phi T = tot x.now + phi { T2 with names := [T2.next], tabs := [T2.whole] }
          omega
        · have := (sm2 h5 h6).1
          omega
    · have e5 := of_decide_eq_false e5
      omega
  -- laid down?
  have hm39 : v.km + n = (appS T l).mem.length := by
    show _ = (T.mem ++ l).length
    rw [List.length_append]; omega
  have nx1 : (appS T l).next + 2 ≤ 2 * (u + l.length) := by
    have h5 : (appS T l).next = T.next := rfl
    have h6 : 0 < l.length := List.length_pos_iff.2 hlne
    omega
  refine ⟨_, _, _, P39.core.rm, br_intro (fun e5 => ?_) fun e5 => ?_⟩
  · have e5 : ((v.km + n : Nat) : Int) ≥ 24 := of_decide_eq_true e5
    have h24 : 24 ≤ (appS T l).mem.length := by omega
    have fall := fw1.all
    have fnm := fw1.names
    have fla := fw1.last
    have hns := next_new tf1.inc
    have hlp := lstT_len2 (names := (appS T l).names ++ [(appS T l).next]) (la := (appS T l).last) (by rw [List.length_append, List.length_singleton]; omega) (fun n hn => by
      rcases List.mem_append.1 hn with hn | hn
      · have := hns n hn; omega
      · rw [List.mem_singleton.1 hn]; omega) (by omega)
    have tfx : TF nm x1.now (appS T l) := ap1.tf
    refine (lay_spec ⟨lg, B', bn', bc', _, P39⟩ hnm (gbT tr39).2 (gbT tr39).1 dn39 (fun q hq => .inr hq) tfx ap1.q (by omega) (by omega) (by omega) (by omega) hlp (by omega) (frI ap1 tr39).2 (frI ap1 tr39).1).mono ?_
    rintro vv h45 ⟨rfl, hv⟩
    refine ⟨_, rfl, br_intro (fun e => by simp at e) fun _ => ?_⟩
    rcases hv with ⟨_, k45⟩ | ⟨_, g2, x2, tr2, q2, r2, now2, w2⟩
    · exact fin (tr39.keep k45) ap1.tf ap1.q ap1.room ap1.pairs fw1 (by omega) ap1.oth (by omega) ap1.tot (fun h5 => by have h6 : (appS T l).tabs.length = T.tabs.length := rfl; omega) fun h5 _ => by have h6 : (appS T l).mem.length = T.mem.length + l.length := List.length_append; omega
    · have hln : (laidS (appS T l)).next = (appS T l).next + 1 := laid_next _
      refine fin (tr39.trans tr2 gN) (by rw [now2]; exact tfx.lay) q2 (by rw [r2]; exact ap1.room) (by rw [← ap1.pairs]; exact (appS T l).lay_pairs) (fw1.lay h24 (by omega)) (by omega) (fun f h5 h6 => ?_) (by omega) ?_ (fun h5 => ?_) fun h5 _ => by have h6 : (appS T l).mem.length = T.mem.length + l.length := List.length_append; omega
      · rw [now2, frame_lay dn39.ok.now _ _ _ h5 h6]; exact ap1.oth f h5 h6
      · have h7 := tfx.tot_lay
        have h8 : x2.now = del nm (layF nm (appS T l).next (pagesOf (tabF (ofL (appS T l).mem))) (pagesOf (tabF (lstT ((appS T l).names ++ [(appS T l).next]) (appS T l).last))) x1.now) := now2
        rw [← h8] at h7
        have h9 := ap1.tot
        show tot x2.now + phi T = tot x.now + phi ⟨[], (appS T l).names ++ [(appS T l).next], (appS T l).tabs ++ [ofL (appS T l).mem], [], (appS T l).last⟩
        omega
      · show (T.tabs ++ [ofL (appS T l).mem]).length ≤ 4
        rw [List.length_append, List.length_singleton]; omega
  · exact fin tr39 ap1.tf ap1.q ap1.room ap1.pairs fw1 (by omega) ap1.oth (by omega) ap1.tot (fun h5 => by have h6 : (appS T l).tabs.length = T.tabs.length := rfl; omega) fun h5 h6 => ⟨h6, hsafe, by omega, rfl, hNx.now⟩
end
end Go.Proofs.YtkhinnchplahlaaGreatDoor
end

section
set_option maxRecDepth 100000
namespace Go.Proofs.YtkhinnchplahlaaGreatDoor
open Go Go.Vc Go.Proofs Go.Dk Go.Kv Go.Ls Go.Cd
open Go.Pg (Quiet Nx layW partB nparts partsW partsW_len)

theorem reads_neq_nilI {P : Program} {t : TypeId} {x : Operand} {h : Heap} (ht : P.underlying t = some (.interface (P.methodsAt t))) : Reads P (eqSem .neq t x (Operand.const Value.nilIface) .nilIface .nilIface) h (.bool false) :=
  ⟨fun w _ => by simp [eqSem, eqGuard, run_neq_nil_nil w t ht]⟩
theorem rIn1 {n : Nat} (h1 : 1 ≤ n) (h2 : n ≤ 1125899906842624) (r : List UInt8) : rIn 1 1125899906842624 (some (uintB (2 * n) ++ r)) = ((n : Int), some r) := by
  unfold rIn
  rw [rInt_uintB (by omega)]
  dsimp only
  rw [if_neg (by omega)]
set_option maxHeartbeats 2000000 in
theorem writes_spec {h : Heap} {m : Nat} {l : List Wr} (hm1 : 1 ≤ m) (hm : m ≤ 1000000) (hw : ∀ w ∈ l, Fit w) (hl : l.length ≤ 100000) :
    HC Tryz.prog 38 #[.string (recB m l)] h fun v h' => Keep h.size h h' ∧ ∃ a k c, v = .tuple #[.int .i64 m, .slice a k c, .bool true] ∧ Vc.Own WrE 42 h.size h' a k c l := by
  have hrs := recB_size (n := m) hw (by omega) (by omega)
  have hpl := plainB_len hw (by omega)
  have hsz : (⟨(plainB l).toArray⟩ : ByteArray).size = (plainB l).length := List.size_toArray ..
  refine HC_of_vc (args := [.string (recB m l)]) (base := 54) (cuts := []) (bigs := []) kM Tryz.func38 ?_
  rw [vcLmWrites]
  refine svc_bytes uS uBs' uU8' fun a1 c1 h1 k1 z1 s1 hc1 b1 => ⟨_, _, _, rfl, (cread_spec s1 (by omega)).mono ?_⟩
  rintro v h6 ⟨k6, r, rfl, hr6, rd6⟩
  have hb : bytesL (recB m l) = uintB (2 * m) ++ textB ⟨(plainB l).toArray⟩ := rfl
  rw [hb] at rd6
  have e1 := rIn1 hm1 (by omega) (textB ⟨(plainB l).toArray⟩)
  refine ⟨_, rfl, (rin_spec (lo := 1) (hi := 1125899906842624) rd6).mono ?_⟩
  rintro v h9 ⟨rd9, u9, rfl⟩
  rw [e1] at rd9 ⊢
  dsimp only at rd9 ⊢
  have hsl : (plainB l).length < (recB m l).size := by
    have h1 : (recB m l).size = (uintB (2 * m) ++ textB ⟨(plainB l).toArray⟩).length := List.size_toArray ..
    rw [h1, List.length_append, textB_len, hsz]
    have := uintB_pos (2 * m)
    omega
  have e2 : rText ((recB m l).size : Int) (some (textB ⟨(plainB l).toArray⟩)) = (⟨(plainB l).toArray⟩, some []) := by
    have := rText_textB (s := ⟨(plainB l).toArray⟩) (most := ((recB m l).size : Int)) (by omega) (by omega) []
    rw [List.append_nil] at this; exact this
  refine ⟨_, rfl, (rtext2_spec (m := ((recB m l).size : Int)) rd9 (by omega) (by omega)).mono ?_⟩
  rintro v h12 ⟨rd12, u12, rfl⟩
  rw [e2] at rd12 ⊢
  dsimp only at rd12 ⊢
  have hrl : r < h6.size := by obtain ⟨_, _, _, p⟩ := rd6; exact at_lt p.box
  have z9 := u9.size
  have z12 := u12.size
  have z1' := k1.size
  have z6 := k6.size
  have k012 : Keep h.size h h12 := (k1.trans (k6.mono z1')).trans ((u9.trans u12).keep (by omega) fun q e => by omega)
  refine ⟨_, rfl, svc_bytes uS uBs' uU8' fun a2 c2 h15 k15 z15 s15 hc15 b15 => ⟨_, _, _, rfl, (cread_spec s15 (by omega)).mono ?_⟩⟩
  rintro v h20 ⟨k20, r2, rfl, hr20, rd20⟩
  have hb2 : bytesL (⟨(plainB l).toArray⟩ : ByteArray) = plainB l := rfl
  rw [hb2] at rd20
  have hu := (rWrs_plain hw (by omega)).1
  have hr2l : r2 < h20.size := by obtain ⟨_, _, _, p⟩ := rd20; exact at_lt p.box
  refine ⟨_, rfl, (ruint2_spec rd20).mono ?_⟩
  rintro v h23 ⟨rd23, u23, rfl, _⟩
  rw [hu] at rd23 ⊢
  dsimp only at rd23 ⊢
  have z15' := k15.size
  have z20 := k20.size
  have z23 := u23.size
  have k1220 : Keep h12.size h12 h20 := k15.trans (k20.mono z15')
  have k020 : Keep h.size h h20 := k012.trans (k1220.mono k012.size)
  have rdo : RdAt (fun q => h1.size ≤ q ∧ q < h6.size) h20 r (some []) := rd12.keep k1220
  have z012 := k012.size
  have k023 : Keep h.size h h23 := k020.trans (u23.keep (by omega) fun q e => by omega)
  refine ⟨_, rfl, fun a k c' n30 G => ∃ j : Nat, n30 = ((l.length - j : Nat) : Int) ∧ j ≤ l.length ∧ Keep h.size h G ∧ h23.size ≤ G.size ∧ RdAt (fun q => h1.size ≤ q ∧ q < h6.size) G r (some []) ∧ RdAt (fun q => h15.size ≤ q ∧ q < h20.size) G r2 (some ((l.drop j).flatMap wrB)) ∧ Vc.Own WrE 42 h23.size G a k c' (l.take j),
    fun _ _ _ n30 _ => n30.toNat, ⟨0, by simp, Nat.zero_le _, k023, Nat.le_refl _, rdo.updM u23.m fun q hq e => by omega, by simpa using rd23, by simpa using Vc.Own.nil _ _ _⟩, ?_⟩
  rintro a27 k28 k29 n30 G ⟨j, rfl, hj, kG, zG, rdoG, rdG, oG⟩
  have hok := oG.1
  rw [List.length_take, Nat.min_eq_left hj] at hok
  subst hok
  have hob := oG.block
  have zhG := kG.size
  refine br_intro (fun e => ?_) fun e => ?_
  · have e := of_decide_eq_true e
    have hjl : j < l.length := by omega
    refine (rgood_spec rdG).mono ?_
    rintro v h33 ⟨rfl, rfl⟩
    refine ⟨_, rfl, br_intro (fun _ => ?_) fun e => by cases e⟩
    have hq : l[j]? = some (l[j]'hjl) := List.getElem?_eq_getElem hjl
    have hmem := List.getElem_mem hjl
    have hdr : (l.drop j).flatMap wrB = wrB l[j] ++ (l.drop (j + 1)).flatMap wrB := by rw [List.drop_eq_getElem_cons hjl, List.flatMap_cons]
    have htk : l.take (j + 1) = l.take j ++ [l[j]] := List.take_succ_eq_append_getElem hjl
    rw [hdr] at rdG
    generalize l[j] = w at hq hmem rdG htk
    refine rd_step (hw w hmem) rdG (fun q hq => by omega) (by omega) fun h36 H hbG bH rdH uH => ?_
    have oH : Vc.Own WrE 42 h23.size H a27 j k29 (l.take j) := oG.upd uH fun q hq e => by have := (hob q hq).1; omega
    have zH := uH.size
    refine ⟨_, _, _, rdWr bH, svc_append1 (x := w) app_wr oH (by omega) (bs_wr w) (by show (4 * (j + 1) + 192) * 40 ≤ 2 ^ 48; omega) fun a' c' h59 o59 u59 b59 => ?_⟩
    have hwu : IntKind.u64.wrap (((l.length - j : Nat) : Int) - 1) = ((l.length - (j + 1) : Nat) : Int) := by
      have : (((l.length - j : Nat) : Int) - 1) = ((l.length - (j + 1) : Nat) : Int) := by omega
      rw [this]; exact wrap_u64n (by omega)
    rw [hwu]
    have z59 := u59.size
    refine ⟨⟨j + 1, rfl, hjl, ?_, by omega, ?_, ?_, ?_⟩, by dsimp only; omega⟩
    · exact (kG.trans (uH.keep zhG fun q e => by omega)).trans (u59.keep (by omega) fun q hq => by have := (hob q hq).1; omega)
    · exact (rdoG.updM uH.m fun q hq e => by omega).updM u59.m fun q hq hb => by have := (hob q hb).1; omega
    · exact rdH.updM u59.m fun q hq hb => by have := (hob q hb).1; omega
    · rw [htk]; exact o59
  · have e := of_decide_eq_false e
    have hjn : j = l.length := by omega
    subst hjn
    rw [List.take_length] at oG
    rw [List.drop_length, List.flatMap_nil] at rdG
    have hd : decide ((some [] : Option (List UInt8)) = some []) = true := decide_eq_true rfl
    refine (rend_spec rdoG).mono ?_
    rintro v h70 ⟨rfl, rfl⟩
    rw [hd]
    refine ⟨_, rfl, br_intro (fun _ => (rend_spec rdG).mono ?_) fun e => by cases e⟩
    rintro v h73 ⟨rfl, rfl⟩
    rw [hd]
    exact ⟨_, rfl, kG, a27, _, k29, rfl, oG.mono (by omega)⟩
section
variable {h : Heap} {t d : Nat} {nm : Str} {lp : Option Addr} {v : Tv} {w : Tw} {N : Nat → Prop} {x : D}
theorem list_box (hb : h[t]? = some (trBox d nm lp v w)) (hnm : nm.size ≤ 1000000) : HC Tryz.prog 67 #[.pointer (some ⟨t, 0, none⟩)] h fun v h' => h' = h ∧ v = .string (nmL nm) := by
  refine HC_of_vc (args := [.pointer (some ⟨t, 0, none⟩)]) (base := 8) (cuts := []) (bigs := []) kM Tryz.func67 ?_
  rw [vcLmList, imax']
  exact ⟨_, rfl, nm, reads_load kS (cell_cells hb rfl), by omega, rfl, rfl⟩
theorem file_box (hb : h[t]? = some (trBox d nm lp v w)) (hnm : nm.size ≤ 1000000) (tab : TabH h) {k : Nat} (hk : k < 1000000) : HC Tryz.prog 70 #[.pointer (some ⟨t, 0, none⟩), .int .i64 k] h fun v h' => Keep h.size h h' ∧ v = .string (nmF nm k) := by
  refine HC_of_vc (args := [.pointer (some ⟨t, 0, none⟩), .int .i64 k]) (base := 13) (cuts := []) (bigs := []) kM Tryz.func70 ?_
  rw [vcLmFile, imax']
  refine ⟨fun H => Keep h.size h H, Keep.refl _ _, _, rfl, nm, fun H kH => reads_load kS (cell_cells (kH.at hb (at_lt hb)) rfl), by omega, (itoa_spec (n := k) (.inr ⟨by omega, tab⟩)).mono ?_⟩
  rintro v h5 ⟨k5, rfl⟩
  refine ⟨_, rfl, k5, ?_, k5, rfl⟩
  have h2 := numS_size (k := 5) hk
  have h3 : (nm ++ (⟨#[45]⟩ : Str)).size = nm.size + 1 := size_app _ _
  show (((nm ++ (⟨#[45]⟩ : Str)).size + (numS k).size : Nat) : Int) ≤ _
  rw [h3]
  omega
theorem digits_ne_draft (n : Nat) : Lib.decDigits n ≠ [100, 114, 97, 102, 116] := fun h => by
  have := digits_all n 100 (by rw [h]; exact List.mem_cons_self)
  exact absurd this (by decide)
set_option maxHeartbeats 2000000 in
theorem tidy_spec {T : TS} (hb : h[t]? = some (trBox d nm lp v w)) (hN : Sl (IntE .i64) h v.an v.kn (intsL T.names)) (hnm : nm.size ≤ 1000000) (tab : TabH h) (dn : DN N d x h) (tf : TF nm x.now T) (hnx : T.next ≤ 100000) (hnl : T.names.length ≤ 100000) (hsz : ∀ f ∈ names x.now, f.size ≤ 9223372036854775807) (hfl : x.now.length ≤ 1000000) :
    HC Tryz.prog 36 #[.pointer (some ⟨t, 0, none⟩)] h fun vv h' => vv = .int .i64 0 ∧ Keep h.size h h' := by
  have hns := next_new tf.inc
  refine HC_of_vc (args := [.pointer (some ⟨t, 0, none⟩)]) (base := 73) (cuts := []) (bigs := []) kM Tryz.func36 ?_
  rw [vcLmTidy]
  refine ⟨_, rfl, _, reads_load kDp' (cell_cells0 hb rfl), (dn.names (by omega) hsz).mono ?_⟩
  rintro vv h3 ⟨k3, a4, k5, c6, rfl, s3⟩
  have hl3 := s3.1
  have hnd : (namesD x).length ≤ 1000000 := by
    unfold namesD
    split
    · simp
    · rw [len_names1]; omega
  refine ⟨_, _, _, rfl, fun _ n10 G => ∃ j : Nat, n10 = j ∧ j ≤ k5 ∧ Keep h3.size h3 G, fun _ n10 _ => k5 - n10.toNat, ⟨0, rfl, Nat.zero_le _, Keep.refl _ _⟩, ?_⟩
  rintro n9 n10 G ⟨j, rfl, hj, kG⟩
  have k0G := k3.trans (kG.mono k3.size)
  refine br_intro (fun e => ?_) fun e => ⟨rfl, k0G⟩
  have e := of_decide_eq_true e
  have hjl : j < (namesD x).length := by omega
  have hq : (namesD x)[j]? = some ((namesD x)[j]'hjl) := List.getElem?_eq_getElem hjl
  have hmem := List.getElem_mem hjl
  generalize (namesD x)[j]'hjl = f at hq hmem
  have hmem2 : f ∈ names x.now := by
    unfold namesD at hmem
    split at hmem
    · cases hmem
    · exact hmem
  have hsome : (mGet x.now f).isSome = true := by
    cases hg : mGet x.now f with
    | some l => rfl
    | none => rw [mGet_none] at hg; exact absurd hmem2 hg
  have hfs := hsz f hmem2
  have bG := k0G.at hb (at_lt hb)
  obtain ⟨p12, ea, hp12⟩ := (s3.keep kG).get hq
  have go : ∀ {H : Heap}, Keep G.size G H → (∃ j' : Nat, IntKind.i64.wrap ((j : Int) + 1) = j' ∧ j' ≤ k5 ∧ Keep h3.size h3 H) ∧ k5 - (IntKind.i64.wrap ((j : Int) + 1)).toNat < k5 - ((j : Int)).toNat := fun {H} kH => by
    rw [wrap_i64 (by omega) (by omega)]
    exact ⟨⟨j + 1, rfl, by omega, kG.trans (kH.mono kG.size)⟩, by omega⟩
  refine ⟨p12, ⟨ea, by omega, e⟩, f, reads_load kS (by rw [Int.toNat_natCast]; exact hp12 0 _ rfl), _, rfl, nm, reads_load kS (cell_cells bG rfl), by rw [imax']; omega, (cutP_spec f (nm ++ ⟨#[45]⟩) G hfs).mono ?_⟩
  rintro vv h17 ⟨rfl, hv⟩
  rcases hv with ⟨r, hr, rfl⟩ | ⟨hno, rfl⟩
  · have hun : under nm f := ⟨r, by rw [hr]; simp [ByteArray.data_append]⟩
    refine ⟨_, _, rfl, br_intro (fun _ => (list_box bG hnm).mono ?_) fun e => by cases e⟩
    rintro vv h21 ⟨rfl, rfl⟩
    refine ⟨_, rfl, br_intro (fun _ => go (Keep.refl _ _)) fun e => ?_⟩
    have hne : f ≠ nmL nm := fun h => by rw [eq_beq.2 h] at e; cases e
    obtain ⟨k, hk, hfk⟩ : ∃ k ∈ T.names, f = nmF nm k := by
      rcases tf.only f hun hsome with h | h
      · exact absurd h hne
      · exact h
    have hk6 := hns k hk
    have hrd : r = Lib.decDigits k := by
      have h1 : f.data.toList = (nmF nm k).data.toList := by rw [hfk]
      rw [nmF_list, hr] at h1
      have h2 : (nm ++ (⟨#[45]⟩ : Str)).data.toList = nm.data.toList ++ [45] := by simp [ByteArray.data_append]
      rw [h2, List.append_assoc] at h1
      have h3 := List.append_cancel_left h1
      simpa using h3
    subst hrd
    have hnum : (⟨(Lib.decDigits k).toArray⟩ : Str) = numS k := rfl
    rw [hnum]
    have hks := numS_size (k := 5) (n := k) (by omega)
    refine (atoi_spec (s := numS k) (n := k) (by omega) (atoi_digits k)).mono ?_
    rintro vv h24 ⟨k24, rfl⟩
    have hdr : ((numS k).toList == ([100, 114, 97, 102, 116] : List UInt8)) = false := by
      rw [ByteArray.toList_eq, numS_list]
      exact beq_eq_false_iff_ne.2 (digits_ne_draft k)
    refine ⟨_, _, rfl, _, fun _ => reads_neq_nilI (by kernel_rfl), ?_⟩
    show br (bif ((numS k).toList == ([100, 114, 97, 102, 116] : List UInt8)) then false else true) _ _
    rw [hdr]
    have tab24 := (tab.updM k0G.m (S := fun _ => False) id).updM k24.m (S := fun _ => False) id
    refine br_intro (fun _ => br_intro (fun _ => (itoa_spec (n := k) (.inr ⟨by omega, tab24⟩)).mono ?_) fun e => by cases e) fun e => by cases e
    rintro vv h169 ⟨k169, rfl⟩
    have kk := k24.trans (k169.mono k24.size)
    have kk0 := k0G.trans (kk.mono k0G.size)
    have b169 := kk.at bG (at_lt bG)
    have hself : ((numS k).toList == (numS k).toList) = true := by simp
    refine ⟨_, rfl, ?_⟩
    rw [hself]
    refine ⟨_, fun _ => rfl, _, _, _, fun _ => reads_load kIs (cell_cells b169 rfl), br_intro (fun _ => (contI_spec (k := (k : Int)) (hN.keep kk0) (by have := hN.1; unfold intsL at this; rw [List.length_map] at this; omega)).mono ?_) fun e => by cases e⟩
    rintro vv h176 ⟨rfl, rfl⟩
    have hin : ((k : Int) ∈ intsL T.names) := List.mem_map_of_mem hk
    rw [decide_eq_true hin]
    exact ⟨_, rfl, br_intro (fun _ => go kk) fun e => by cases e⟩
  · exact ⟨_, _, rfl, br_intro (fun e => by cases e) fun _ => go (Keep.refl _ _)⟩
end
end Go.Proofs.YtkhinnchplahlaaGreatDoor
end

section
set_option maxRecDepth 100000
namespace Go.Proofs.YtkhinnchplahlaaGreatDoor
open Go Go.Vc Go.Proofs

theorem vcLmTell (t : Nat) (h : Heap) (R : Value → Heap → Prop) :
    vcF Tryz.prog Tryz.f35 107 [] [] [.pointer (some ⟨t, 0, none⟩)] h R =
(∃ (I0 : Heap → Prop),
 I0 h ∧
 ∃ (p1 : Addr),
 some (Addr.mk t 0 none) = some p1 ∧
 ∃ (a2 : Option Addr),
 (∀ (h3 : Heap), I0 h3 → Reads Tryz.prog (Instr.loadAt 25 (.pointer (some p1))) h3 (.pointer a2)) ∧
 HC Tryz.prog 67 (Array.mk [.pointer (some (Addr.mk t 0 none))]) h fun (v4 : Value) (h5 : Heap) =>
 ∃ (s6 : ByteArray),
 v4 = .string s6 ∧
 I0 h5 ∧
 HC Tryz.prog 66 (Array.mk [.pointer a2, .string s6]) h5 fun (v7 : Value) (h8 : Heap) =>
 ∃ (b9 : Bool),
 v7 = .bool b9 ∧
 br (!b9) (R (.int .i64 (0 : Int)) h8)
 (∃ (I10 : Heap → Prop),
 I10 h8 ∧
 ∃ (p11 : Addr),
 some (Addr.mk t 0 none) = some p11 ∧
 ∃ (a12 : Option Addr),
 (∀ (h13 : Heap), I10 h13 → Reads Tryz.prog (Instr.loadAt 25 (.pointer (some p11))) h13 (.pointer a12)) ∧
 HC Tryz.prog 67 (Array.mk [.pointer (some (Addr.mk t 0 none))]) h8 fun (v14 : Value) (h15 : Heap) =>
 ∃ (s16 : ByteArray),
 v14 = .string s16 ∧
 I10 h15 ∧
 HC Tryz.prog 68 (Array.mk [.pointer a12, .string s16]) h15 fun (v17 : Value) (h18 : Heap) =>
 ∃ (a19 : Option Addr),
 ∃ (n20 : Int),
 v17 = .tuple (Array.mk [.pointer a19, .int .i64 n20]) ∧
 br (n20 != (0 : Int)) (R (.int .i64 n20) h18)
 (HC Tryz.prog 52 (Array.mk [.pointer a19]) h18 fun (v21 : Value) (h22 : Heap) =>
 ∃ (a23 : Option Addr),
 ∃ (k24 : Nat),
 ∃ (k25 : Nat),
 v21 = .slice a23 k24 k25 ∧
 ∃ (I26 : Int → Int → Heap → Prop),
 ∃ (I27 : Int → Int → Heap → Nat),
 I26 (0 : Int) (0 : Int) h22 ∧
 ∀ (n28 n29 : Int) (h30 : Heap),
 I26 n28 n29 h30 →
 br (decide (n29 < (↑k24 : Int)))
 (∃ (p31 : Addr),
 (a23 = some p31 ∧ (0 : Int) ≤ n29 ∧ n29 < (↑k24 : Int)) ∧
 ∃ (s32 : ByteArray),
 ∃ (s33 : ByteArray),
 ∃ (b34 : Bool),
 Reads Tryz.prog (Instr.loadAt 42 (.pointer (some (p31.add (n29.toNat * 3))))) h30
 (.agg (Array.mk [.string s32, .string s33, .bool b34])) ∧
 SVC Tryz.prog
 (Instr.storeAt 42 (.pointer (some (Addr.mk (Array.size h30) 0 none)))
 (.agg (Array.mk [.string s32, .string s33, .bool b34])))
 (Array.push h30
 (Obj.cells
 (Array.mk
 [.string (ByteArray.mk (Array.mk [])), .string (ByteArray.mk (Array.mk [])),
 .bool false])
 42))
 fun (x35 : Unit) (h36 : Heap) =>
 ∃ (s37 : ByteArray),
 Reads Tryz.prog
 (Instr.loadAt 9
 (.pointer (some ((Addr.mk (Array.size h30) 0 none).add 1))))
 h36 (.string s37) ∧
 HC Tryz.prog 69 (Array.mk [.string s37]) h36 fun (v38 : Value) (h39 : Heap) =>
 ∃ (n40 : Int),
 ∃ (v41 : Value),
 v38 = .tuple (Array.mk [.int .i64 n40, v41]) ∧
 ∃ (b42 : Bool),
 Reads Tryz.prog
 (eqSem BinOp.neq 138 (Operand.tmp 45) (Operand.const .nilIface) v41
 .nilIface)
 h39 (.bool b42) ∧
 br (b42 || decide (n40 < (0 : Int))) (R (.int .i64 (4 : Int)) h39)
 (∃ (s43 : ByteArray),
 Reads Tryz.prog
 (Instr.loadAt 9
 (.pointer (some (Addr.mk (Array.size h30) 0 none))))
 h39 (.string s43) ∧
 br
 (s43.toList ==
 [(Subtype.mk
 ((ByteArray.mk
 (Array.mk
 [(108 : UInt8), (97 : UInt8), (105 : UInt8), (100 : UInt8)])).get!
 0)
 (List.forall_mem_cons.mp
 (List.forall_mem_cons.mp
 (List.forall_mem_cons.mp
 (List.forall_mem_cons.mp
 (List.attach._proof_1
 [(ByteArray.mk
 (Array.mk
 [(108 : UInt8), (97 : UInt8), (105 : UInt8),
 (100 : UInt8)])).get!
 3,
 (ByteArray.mk
 (Array.mk
 [(108 : UInt8), (97 : UInt8), (105 : UInt8),
 (100 : UInt8)])).get!
 2,
 (ByteArray.mk
 (Array.mk
 [(108 : UInt8), (97 : UInt8), (105 : UInt8),
 (100 : UInt8)])).get!
 1,
 (ByteArray.mk
 (Array.mk
 [(108 : UInt8), (97 : UInt8), (105 : UInt8),
 (100 : UInt8)])).get!
 0])).right).right).right).left).val,
 (Subtype.mk
 ((ByteArray.mk
 (Array.mk
 [(108 : UInt8), (97 : UInt8), (105 : UInt8), (100 : UInt8)])).get!
 1)
 (List.forall_mem_cons.mp
 (List.forall_mem_cons.mp
 (List.forall_mem_cons.mp
 (List.attach._proof_1
 [(ByteArray.mk
 (Array.mk
 [(108 : UInt8), (97 : UInt8), (105 : UInt8),
 (100 : UInt8)])).get!
 3,
 (ByteArray.mk
 (Array.mk
 [(108 : UInt8), (97 : UInt8), (105 : UInt8),
 (100 : UInt8)])).get!
 2,
 (ByteArray.mk
 (Array.mk
 [(108 : UInt8), (97 : UInt8), (105 : UInt8),
 (100 : UInt8)])).get!
 1,
 (ByteArray.mk
 (Array.mk
 [(108 : UInt8), (97 : UInt8), (105 : UInt8),
 (100 : UInt8)])).get!
 0])).right).right).left).val,
 (Subtype.mk
 ((ByteArray.mk
 (Array.mk
 [(108 : UInt8), (97 : UInt8), (105 : UInt8), (100 : UInt8)])).get!
 2)
 (List.forall_mem_cons.mp
 (List.forall_mem_cons.mp
 (List.attach._proof_1
 [(ByteArray.mk
 (Array.mk
 [(108 : UInt8), (97 : UInt8), (105 : UInt8),
 (100 : UInt8)])).get!
 3,
 (ByteArray.mk
 (Array.mk
 [(108 : UInt8), (97 : UInt8), (105 : UInt8),
 (100 : UInt8)])).get!
 2,
 (ByteArray.mk
 (Array.mk
 [(108 : UInt8), (97 : UInt8), (105 : UInt8),
 (100 : UInt8)])).get!
 1,
 (ByteArray.mk
 (Array.mk
 [(108 : UInt8), (97 : UInt8), (105 : UInt8),
 (100 : UInt8)])).get!
 0])).right).left).val,
 (Subtype.mk
 ((ByteArray.mk
 (Array.mk
 [(108 : UInt8), (97 : UInt8), (105 : UInt8), (100 : UInt8)])).get!
 3)
 (List.forall_mem_cons.mp
 (List.attach._proof_1
 [(ByteArray.mk
 (Array.mk
 [(108 : UInt8), (97 : UInt8), (105 : UInt8),
 (100 : UInt8)])).get!
 3,
 (ByteArray.mk
 (Array.mk
 [(108 : UInt8), (97 : UInt8), (105 : UInt8),
 (100 : UInt8)])).get!
 2,
 (ByteArray.mk
 (Array.mk
 [(108 : UInt8), (97 : UInt8), (105 : UInt8),
 (100 : UInt8)])).get!
 1,
 (ByteArray.mk
 (Array.mk
 [(108 : UInt8), (97 : UInt8), (105 : UInt8),
 (100 : UInt8)])).get!
 0])).left).val])
 (∃ (p92 : Addr),
 some (Addr.mk t 0 none) = some p92 ∧
 SVC Tryz.prog
 (Instr.storeAt 3 (.pointer (some (p92.add 7)))
 (.int .i64 n40))
 h39 fun (x93 : Unit) (h94 : Heap) =>
 ∃ (p95 : Addr),
 some (Addr.mk t 0 none) = some p95 ∧
 SVC Tryz.prog
 (Instr.storeAt 3 (.pointer (some (p95.add 8)))
 (.int .i64 n40))
 h94 fun (x96 : Unit) (h97 : Heap) =>
 I26 n28 (IntKind.i64.wrap (n29 + (1 : Int))) h97 ∧
 I27 n28 (IntKind.i64.wrap (n29 + (1 : Int))) h97 < I27 n28 n29 h30)
 (∃ (I98 : Heap → Prop),
 I98 h39 ∧
 ∃ (p99 : Addr),
 some (Addr.mk t 0 none) = some p99 ∧
 ∃ (a100 : Option Addr),
 (∀ (h101 : Heap),
 I98 h101 →
 Reads Tryz.prog
 (Instr.loadAt 25 (.pointer (some p99))) h101
 (.pointer a100)) ∧
 HC Tryz.prog 70
 (Array.mk
 [.pointer (some (Addr.mk t 0 none)),
 .int .i64 n40])
 h39 fun (v102 : Value) (h103 : Heap) =>
 ∃ (s104 : ByteArray),
 v102 = .string s104 ∧
 I98 h103 ∧
 HC Tryz.prog 68
 (Array.mk [.pointer a100, .string s104]) h103
 fun (v105 : Value) (h106 : Heap) =>
 ∃ (a107 : Option Addr),
 ∃ (n108 : Int),
 v105 =
 .tuple
 (Array.mk
 [.pointer a107,
 .int .i64 n108]) ∧
 br (n108 != (0 : Int))
 (R (.int .i64 n108) h106)
 (∃ (I109 : Nat → Heap → Prop),
 I109 (6) h106 ∧
 I109 (13) h106 ∧
 I109 (20) h106 ∧
 I109 (23) h106 ∧
 ∃ (p110 : Addr),
 some (Addr.mk t 0 none) =
 some p110 ∧
 ∃ (a111 : Option Addr),
 ∃ (k112 : Nat),
 ∃ (k113 : Nat),
 (∀ (h114 : Heap),
 I109 (6) h114 →
 Reads Tryz.prog
 (Instr.loadAt 79
 (.pointer
 (some
 (p110.add
 4))))
 h114
 (.slice a111 k112
 k113)) ∧
 ∃ (p115 : Addr),
 some
 (Addr.mk t 0
 none) =
 some p115 ∧
 ∃ (a116 : Option Addr),
 ∃ (k117 : Nat),
 ∃ (k118 : Nat),
 (∀ (h119 : Heap),
 I109
 (13)
 h119 →
 Reads
 Tryz.prog
 (Instr.loadAt
 80
 (.pointer
 (some
 (p115.add
 (5 :
 Nat)))))
 h119
 (.slice
 a116 k117
 k118)) ∧
 ∃ (p120 : Addr),
 some
 (Addr.mk t
 (0 :
 Nat)
 none) =
 some p120 ∧
 ∃ (n121 :
 Int),
 (∀
 (h122 :
 Heap),
 I109
 (nat_lit
 20)
 h122 →
 Reads
 Tryz.prog
 (Instr.loadAt
 (3 :
 Nat)
 (.pointer
 (some
 (p120.add
 (6 :
 Nat)))))
 h122
 (.int
 .i64
 n121)) ∧
 ∃ (n123 :
 Int),
 (∀
 (h124 :
 Heap),
 I109
 (nat_lit
 23)
 h124 →
 Reads
 Tryz.prog
 (Builtin.max_
 (Array.mk
 [(3 :
 Nat),
 (3 :
 Nat)])
 (3 :
 Nat)
 (Array.mk
 [.int
 .i64
 n121,
 .int
 .i64
 (IntKind.i64.wrap
 (n40 +
 (1 :
 Int)))]))
 h124
 (.int
 .i64
 n123)) ∧
 (SVC
 Tryz.prog
 (Instr.buildSlice
 (79 :
 Nat)
 (1 :
 Nat)
 (Array.mk
 [((0 :
 Nat),
 .int
 .i64
 n40)]))
 h106
 fun
 (v125 :
 Value)
 (h126 :
 Heap) =>
 ∃
 (a127
 :
 Option
 Addr),
 ∃
 (k128
 :
 Nat),
 ∃
 (k129
 :
 Nat),
 v125 =
 .slice
 a127
 k128
 k129 ∧
 I109
 (nat_lit
 6)
 h126 ∧
 I109
 (nat_lit
 13)
 h126 ∧
 I109
 (nat_lit
 20)
 h126 ∧
 I109
 (nat_lit
 23)
 h126 ∧
 (SVC
 Tryz.prog
 (Builtin.append_
 (Array.mk
 [(79 :
 Nat),
 (79 :
 Nat)])
 (79 :
 Nat)
 (Array.mk
 [.slice
 a111
 k112
 k113,
 .slice
 a127
 k128
 k129]))
 h126
 fun
 (v130 :
 Value)
 (h131 :
 Heap) =>
 ∃
 (a132
 :
 Option
 Addr),
 ∃
 (k133
 :
 Nat),
 ∃
 (k134
 :
 Nat),
 v130 =
 .slice
 a132
 k133
 k134 ∧
 I109
 (nat_lit
 13)
 h131 ∧
 I109
 (nat_lit
 20)
 h131 ∧
 I109
 (nat_lit
 23)
 h131 ∧
 SVC
 Tryz.prog
 (Instr.buildSlice
 (80 :
 Nat)
 (1 :
 Nat)
 (Array.mk
 [((0 :
 Nat),
 .pointer
 a107)]))
 h131
 fun
 (v135 :
 Value)
 (h136 :
 Heap) =>
 ∃
 (a137
 :
 Option
 Addr),
 ∃
 (k138
 :
 Nat),
 ∃
 (k139
 :
 Nat),
 v135 =
 .slice
 a137
 k138
 k139 ∧
 I109
 (nat_lit
 6)
 h136 ∧
 I109
 (nat_lit
 13)
 h136 ∧
 I109
 (nat_lit
 20)
 h136 ∧
 I109
 (nat_lit
 23)
 h136 ∧
 SVC
 Tryz.prog
 (Builtin.append_
 (Array.mk
 [(80 :
 Nat),
 (80 :
 Nat)])
 (80 :
 Nat)
 (Array.mk
 [.slice
 a116
 k117
 k118,
 .slice
 a137
 k138
 k139]))
 h136
 fun
 (v140 :
 Value)
 (h141 :
 Heap) =>
 ∃
 (a142
 :
 Option
 Addr),
 ∃
 (k143
 :
 Nat),
 ∃
 (k144
 :
 Nat),
 v140 =
 .slice
 a142
 k143
 k144 ∧
 I109
 (nat_lit
 20)
 h141 ∧
 I109
 (nat_lit
 23)
 h141 ∧
 ∃
 (p145
 :
 Addr),
 some
 (Addr.mk
 t
 (0 :
 Nat)
 none) =
 some
 p145 ∧
 SVC
 Tryz.prog
 (Instr.storeAt
 (79 :
 Nat)
 (.pointer
 (some
 (p145.add
 (4 :
 Nat))))
 (.slice
 a132
 k133
 k134))
 h141
 fun
 (x146 :
 Unit)
 (h147 :
 Heap) =>
 I109
 (nat_lit
 23)
 h147 ∧
 ∃
 (p148
 :
 Addr),
 some
 (Addr.mk
 t
 (0 :
 Nat)
 none) =
 some
 p148 ∧
 SVC
 Tryz.prog
 (Instr.storeAt
 (80 :
 Nat)
 (.pointer
 (some
 (p148.add
 (5 :
 Nat))))
 (.slice
 a142
 k143
 k144))
 h147
 fun
 (x149 :
 Unit)
 (h150 :
 Heap) =>
 I109
 (nat_lit
 23)
 h150 ∧
 ∃
 (p151
 :
 Addr),
 some
 (Addr.mk
 t
 (0 :
 Nat)
 none) =
 some
 p151 ∧
 SVC
 Tryz.prog
 (Instr.storeAt
 (3 :
 Nat)
 (.pointer
 (some
 (p151.add
 (6 :
 Nat))))
 (.int
 .i64
 n123))
 h150
 fun
 (x152 :
 Unit)
 (h153 :
 Heap) =>
 I26
 n28
 (IntKind.i64.wrap
 (n29 +
 (1 :
 Int)))
 h153 ∧
 I27
 n28
 (IntKind.i64.wrap
 (n29 +
 (1 :
 Int)))
 h153 <
 I27
 n28
 n29
 h30) ∧
 SVC
 Tryz.prog
 (Instr.buildSlice
 (80 :
 Nat)
 (1 :
 Nat)
 (Array.mk
 [((0 :
 Nat),
 .pointer
 a107)]))
 h126
 fun
 (v154 :
 Value)
 (h155 :
 Heap) =>
 ∃
 (a156
 :
 Option
 Addr),
 ∃
 (k157
 :
 Nat),
 ∃
 (k158
 :
 Nat),
 v154 =
 .slice
 a156
 k157
 k158 ∧
 I109
 (nat_lit
 6)
 h155 ∧
 I109
 (nat_lit
 13)
 h155 ∧
 I109
 (nat_lit
 20)
 h155 ∧
 I109
 (nat_lit
 23)
 h155 ∧
 SVC
 Tryz.prog
 (Builtin.append_
 (Array.mk
 [(79 :
 Nat),
 (79 :
 Nat)])
 (79 :
 Nat)
 (Array.mk
 [.slice
 a111
 k112
 k113,
 .slice
 a127
 k128
 k129]))
 h155
 fun
 (v159 :
 Value)
 (h160 :
 Heap) =>
 ∃
 (a161
 :
 Option
 Addr),
 ∃
 (k162
 :
 Nat),
 ∃
 (k163
 :
 Nat),
 v159 =
 .slice
 a161
 k162
 k163 ∧
 I109
 (nat_lit
 13)
 h160 ∧
 I109
 (nat_lit
 20)
 h160 ∧
 I109
 (nat_lit
 23)
 h160 ∧
 SVC
 Tryz.prog
 (Builtin.append_
 (Array.mk
 [(80 :
 Nat),
 (80 :
 Nat)])
 (80 :
 Nat)
 (Array.mk
 [.slice
 a116
 k117
 k118,
 .slice
 a156
 k157
 k158]))
 h160
 fun
 (v164 :
 Value)
 (h165 :
 Heap) =>
 ∃
 (a166
 :
 Option
 Addr),
 ∃
 (k167
 :
 Nat),
 ∃
 (k168
 :
 Nat),
 v164 =
 .slice
 a166
 k167
 k168 ∧
 I109
 (nat_lit
 20)
 h165 ∧
 I109
 (nat_lit
 23)
 h165 ∧
 ∃
 (p169
 :
 Addr),
 some
 (Addr.mk
 t
 (0 :
 Nat)
 none) =
 some
 p169 ∧
 SVC
 Tryz.prog
 (Instr.storeAt
 (79 :
 Nat)
 (.pointer
 (some
 (p169.add
 (4 :
 Nat))))
 (.slice
 a161
 k162
 k163))
 h165
 fun
 (x170 :
 Unit)
 (h171 :
 Heap) =>
 I109
 (nat_lit
 23)
 h171 ∧
 ∃
 (p172
 :
 Addr),
 some
 (Addr.mk
 t
 (0 :
 Nat)
 none) =
 some
 p172 ∧
 SVC
 Tryz.prog
 (Instr.storeAt
 (80 :
 Nat)
 (.pointer
 (some
 (p172.add
 (5 :
 Nat))))
 (.slice
 a166
 k167
 k168))
 h171
 fun
 (x173 :
 Unit)
 (h174 :
 Heap) =>
 I109
 (nat_lit
 23)
 h174 ∧
 ∃
 (p175
 :
 Addr),
 some
 (Addr.mk
 t
 (0 :
 Nat)
 none) =
 some
 p175 ∧
 SVC
 Tryz.prog
 (Instr.storeAt
 (3 :
 Nat)
 (.pointer
 (some
 (p175.add
 (6 :
 Nat))))
 (.int
 .i64
 n123))
 h174
 fun
 (x176 :
 Unit)
 (h177 :
 Heap) =>
 I26
 n28
 (IntKind.i64.wrap
 (n29 +
 (1 :
 Int)))
 h177 ∧
 I27
 n28
 (IntKind.i64.wrap
 (n29 +
 (1 :
 Int)))
 h177 <
 I27
 n28
 n29
 h30) ∧
 SVC
 Tryz.prog
 (Instr.buildSlice
 (80 :
 Nat)
 (1 :
 Nat)
 (Array.mk
 [((0 :
 Nat),
 .pointer
 a107)]))
 h106
 fun
 (v178 :
 Value)
 (h179 :
 Heap) =>
 ∃
 (a180
 :
 Option
 Addr),
 ∃
 (k181
 :
 Nat),
 ∃
 (k182
 :
 Nat),
 v178 =
 .slice
 a180
 k181
 k182 ∧
 I109
 (nat_lit
 6)
 h179 ∧
 I109
 (nat_lit
 13)
 h179 ∧
 I109
 (nat_lit
 20)
 h179 ∧
 I109
 (nat_lit
 23)
 h179 ∧
 SVC
 Tryz.prog
 (Instr.buildSlice
 (79 :
 Nat)
 (1 :
 Nat)
 (Array.mk
 [((0 :
 Nat),
 .int
 .i64
 n40)]))
 h179
 fun
 (v183 :
 Value)
 (h184 :
 Heap) =>
 ∃
 (a185
 :
 Option
 Addr),
 ∃
 (k186
 :
 Nat),
 ∃
 (k187
 :
 Nat),
 v183 =
 .slice
 a185
 k186
 k187 ∧
 I109
 (nat_lit
 6)
 h184 ∧
 I109
 (nat_lit
 13)
 h184 ∧
 I109
 (nat_lit
 20)
 h184 ∧
 I109
 (nat_lit
 23)
 h184 ∧
 SVC
 Tryz.prog
 (Builtin.append_
 (Array.mk
 [(79 :
 Nat),
 (79 :
 Nat)])
 (79 :
 Nat)
 (Array.mk
 [.slice
 a111
 k112
 k113,
 .slice
 a185
 k186
 k187]))
 h184
 fun
 (v188 :
 Value)
 (h189 :
 Heap) =>
 ∃
 (a190
 :
 Option
 Addr),
 ∃
 (k191
 :
 Nat),
 ∃
 (k192
 :
 Nat),
 v188 =
 .slice
 a190
 k191
 k192 ∧
 I109
 (nat_lit
 13)
 h189 ∧
 I109
 (nat_lit
 20)
 h189 ∧
 I109
 (nat_lit
 23)
 h189 ∧
 SVC
 Tryz.prog
 (Builtin.append_
 (Array.mk
 [(80 :
 Nat),
 (80 :
 Nat)])
 (80 :
 Nat)
 (Array.mk
 [.slice
 a116
 k117
 k118,
 .slice
 a180
 k181
 k182]))
 h189
 fun
 (v193 :
 Value)
 (h194 :
 Heap) =>
 ∃
 (a195
 :
 Option
 Addr),
 ∃
 (k196
 :
 Nat),
 ∃
 (k197
 :
 Nat),
 v193 =
 .slice
 a195
 k196
 k197 ∧
 I109
 (nat_lit
 20)
 h194 ∧
 I109
 (nat_lit
 23)
 h194 ∧
 ∃
 (p198
 :
 Addr),
 some
 (Addr.mk
 t
 (0 :
 Nat)
 none) =
 some
 p198 ∧
 SVC
 Tryz.prog
 (Instr.storeAt
 (79 :
 Nat)
 (.pointer
 (some
 (p198.add
 (4 :
 Nat))))
 (.slice
 a190
 k191
 k192))
 h194
 fun
 (x199 :
 Unit)
 (h200 :
 Heap) =>
 I109
 (nat_lit
 23)
 h200 ∧
 ∃
 (p201
 :
 Addr),
 some
 (Addr.mk
 t
 (0 :
 Nat)
 none) =
 some
 p201 ∧
 SVC
 Tryz.prog
 (Instr.storeAt
 (80 :
 Nat)
 (.pointer
 (some
 (p201.add
 (5 :
 Nat))))
 (.slice
 a195
 k196
 k197))
 h200
 fun
 (x202 :
 Unit)
 (h203 :
 Heap) =>
 I109
 (nat_lit
 23)
 h203 ∧
 ∃
 (p204
 :
 Addr),
 some
 (Addr.mk
 t
 (0 :
 Nat)
 none) =
 some
 p204 ∧
 SVC
 Tryz.prog
 (Instr.storeAt
 (3 :
 Nat)
 (.pointer
 (some
 (p204.add
 (6 :
 Nat))))
 (.int
 .i64
 n123))
 h203
 fun
 (x205 :
 Unit)
 (h206 :
 Heap) =>
 I26
 n28
 (IntKind.i64.wrap
 (n29 +
 (1 :
 Int)))
 h206 ∧
 I27
 n28
 (IntKind.i64.wrap
 (n29 +
 (1 :
 Int)))
 h206 <
 I27
 n28
 n29
 h30))))
 (R (.int .i64 (0 : Int)) h30)))) := by kernel_rfl
end Go.Proofs.YtkhinnchplahlaaGreatDoor
end

section
set_option maxRecDepth 100000
namespace Go.Proofs.YtkhinnchplahlaaGreatDoor
open Go Go.Vc Go.Proofs Go.Dk Go.Kv Go.Ls Go.Cd
open Go.Pg (Quiet Nx layW partB nparts partsW partsW_len)

def nxt (l : List Nat) : Nat := match l.getLast? with
  | none => 0
  | some n => n + 1
theorem nxt_snoc (l : List Nat) (n : Nat) : nxt (l ++ [n]) = n + 1 := by unfold nxt; simp
theorem nxt_le {l : List Nat} {n : Nat} (h : ∀ m ∈ l, m < n) : nxt l ≤ n := by
  unfold nxt
  cases hl : l.getLast? with
  | none => exact Nat.zero_le _
  | some m => exact h m (List.mem_of_getLast? hl)
theorem lstE_at {names : List Nat} {j n : Nat} (h : names[j]? = some n) : (lstE names)[j]? = some ⟨⟨#[UInt8.ofNat j]⟩, numS n, false⟩ := by
  unfold lstE
  rw [List.getElem?_map, List.getElem?_zipIdx, h]
  simp
structure Tl (T : TS) (t d : Nat) (nm : Str) (h22 : Heap) (j : Nat) (v : Tv) (G : Heap) : Prop where
  box : G[t]? = some (trBox d nm none v ⟨[], [], T.names.take j, T.tabs.take j, nxt (T.names.take j), if j ≤ T.names.length then 0 else T.laid, if j ≤ T.names.length then 0 else T.laid⟩)
  m0 : v.am = none ∧ v.km = 0 ∧ v.cm = 0
  nms : Vc.Own (IntE .i64) 3 h22.size G v.an v.kn v.cn (intsL (T.names.take j))
  tbl : Vc.Own TbE 95 h22.size G v.aT v.kT v.cT v.ts
  tbs : TbsAt (fun q => h22.size ≤ q ∧ q < G.size ∧ ¬ blk v.an q ∧ ¬ blk v.aT q) G v.ts (T.tabs.take j)
  dis : ∀ q, blk v.an q → ¬ blk v.aT q
  up : Upd (fun q => q = t) h22 G
section
variable {h : Heap} {t d : Nat} {nm : Str} {N : Nat → Prop} {x : D}
set_option maxHeartbeats 4000000 in
theorem tell_spec {T : TS} (hb : h[t]? = some (trBox d nm none ⟨none, 0, 0, none, 0, 0, none, 0, 0, []⟩ ⟨[], [], [], [], 0, 0, 0⟩)) (hNt : N t) (hnm : nm.size ≤ 1000000) (tab : TabH h) (hgb : gb ≠ t) (dn : DN N d x h) (tf : TF nm x.now T) (hq : Quiet x)
    (hnl : T.names.length ≤ 90) (hnx : T.next ≤ 100000) (hla : T.laid < 1000000) (hTl : T.tabs.flatten.length ≤ 100000) :
    HC Tryz.prog 35 #[.pointer (some ⟨t, 0, none⟩)] h fun vv h' => vv = .int .i64 0 ∧ Upd (fun q => q = t) h h' ∧ ∃ v h22, h.size ≤ h22.size ∧ Tl T t d nm h22 (T.names.length + 1) v h' := by
  have hns := next_new tf.inc
  have htl := at_lt hb
  have hdn := hq.down
  have htlen := tf.lens
  refine HC_of_vc (args := [.pointer (some ⟨t, 0, none⟩)]) (base := 107) (cuts := []) (bigs := []) kM Tryz.func35 ?_
  rw [vcLmTell]
  have rdd : ∀ {H : Heap} {v : Tv} {w : Tw}, H[t]? = some (trBox d nm none v w) → Reads Tryz.prog (Instr.loadAt 25 (.pointer (some ⟨t, 0, none⟩))) H (.pointer (some ⟨d, 0, none⟩)) := fun hb => reads_load kDp' (cell_cells0 hb rfl)
  refine ⟨fun H => H = h, rfl, _, rfl, _, fun H e => by rw [e]; exact rdd hb, (list_box hb hnm).mono ?_⟩
  rintro vv h5 ⟨rfl, rfl⟩
  refine ⟨_, rfl, rfl, (dn.has (nmL nm)).mono ?_⟩
  rintro vv h8 ⟨rfl, rfl⟩
  by_cases hnn : T.names = []
  · have hhas : Dk.has x (nmL nm) = false := by unfold Dk.has; rw [(tf.noL hnn).1]; simp
    rw [hhas]
    refine ⟨_, rfl, br_intro (fun _ => ⟨rfl, Upd.refl _ _, ⟨none, 0, 0, none, 0, 0, none, 0, 0, []⟩, h8, Nat.le_refl _, ?_⟩) fun e => by cases e⟩
    have hT0 : T.tabs = [] := List.eq_nil_of_length_eq_zero (by rw [← htlen, hnn]; rfl)
    refine ⟨?_, ⟨rfl, rfl, rfl⟩, ?_, Vc.Own.nil _ _ _, ?_, fun q hq => (by obtain ⟨_, e, _⟩ := hq; cases e), Upd.refl _ _⟩
    · rw [hnn, hT0, (tf.noL hnn).2]
      rw [hb]
      simp [nxt]
    · rw [hnn]; exact Vc.Own.nil _ _ _
    · rw [hT0]
      exact ⟨by simp, fun i u U h1 _ => by simp at h1⟩
  have hlist := tf.list hnn
  have hhas : Dk.has x (nmL nm) = true := by unfold Dk.has; rw [hlist, hdn]; rfl
  have hnm90 : ∀ n ∈ T.names, n < 1000000 := fun n hn => by have := hns n hn; omega
  have hLfit := ofL_fit (lstW_fit (names := T.names) (laid := T.laid) hnm90 hla)
  have hLlen := ofL_len (lstW T.names T.laid)
  rw [lstW_len] at hLlen
  have hLeq := lstT_eq T.laid T.names (by omega)
  rw [hhas]
  refine ⟨_, rfl, br_intro (fun e => by cases e) fun _ => ⟨fun H => H = h8, rfl, _, rfl, _, fun H e => by rw [e]; exact rdd hb, (list_box hb hnm).mono ?_⟩⟩
  rintro vv h15 ⟨rfl, rfl⟩
  refine ⟨_, rfl, rfl, (load_spec (T := lstT T.names T.laid) dn hdn hlist (ofL_tab _) (by show (ofL (lstW T.names T.laid)).length < 1000000; omega) hLfit).mono ?_⟩
  rintro vv h18 ⟨k18, y, rfl, hy, ty⟩
  refine ⟨_, _, rfl, br_intro (fun e => by simp at e) fun _ => (all_spec ty (by show (ofL (lstW T.names T.laid)).length ≤ 1000000; omega)).mono ?_⟩
  rintro vv h22 ⟨k22, a23, c25, rfl, o22⟩
  have z18 := k18.size
  have z22 := k22.size
  have k022 := k18.trans (k22.mono z18)
  have hLl : (lstT T.names T.laid).length = T.names.length + 1 := by rw [hLeq, List.length_append]; unfold lstE; simp
  have hob22 := o22.block
  refine ⟨_, _, _, rfl, fun _ n29 G => ∃ (j : Nat) (v : Tv), n29 = j ∧ j ≤ T.names.length + 1 ∧ Tl T t d nm h22 j v G, fun _ n29 _ => T.names.length + 1 - n29.toNat,
    ⟨0, ⟨none, 0, 0, none, 0, 0, none, 0, 0, []⟩, rfl, Nat.zero_le _, ⟨?_, ⟨rfl, rfl, rfl⟩, Vc.Own.nil _ _ _, Vc.Own.nil _ _ _, ⟨rfl, fun i u U h1 _ => by simp at h1⟩, fun q hq => (by obtain ⟨_, e, _⟩ := hq; cases e), Upd.refl _ _⟩⟩, ?_⟩
  · rw [k022.at hb htl, if_pos (Nat.zero_le _)]; rfl
  rintro n28 n29 G ⟨j, v, rfl, hj, L⟩
  have zG := L.up.size
  have u0G : Upd (fun q => q = t) h15 G := (k022.upd _).trans L.up
  refine br_intro (fun e => ?_) fun e => ?_
  rotate_left
  · have hjn : j = T.names.length + 1 := by have := of_decide_eq_false e; omega
    subst hjn
    exact ⟨rfl, u0G, v, h22, k022.size, L⟩
  have e := of_decide_eq_true e
  have hjl : j < (lstT T.names T.laid).length := by omega
  have dG : DN N d x G := dn.keepM u0G.m fun q _ e => by rw [e]; exact hNt
  have tabG : TabH G := tab.updM u0G.m hgb
  have sG : Sl WrE G a23 (lstT T.names T.laid).length (lstT T.names T.laid) := (o22.upd L.up fun q hq e => by have := hob22 q hq; omega).sl
  by_cases hjn : j < T.names.length
  · -- one of the tables
    have hqn : T.names[j]? = some (T.names[j]'hjn) := List.getElem?_eq_getElem hjn
    have hmem := List.getElem_mem hjn
    have hjT : j < T.tabs.length := by omega
    have hqT : T.tabs[j]? = some (T.tabs[j]'hjT) := List.getElem?_eq_getElem hjT
    have hmT := List.getElem_mem hjT
    have htk1 : T.names.take (j + 1) = T.names.take j ++ [T.names[j]'hjn] := List.take_succ_eq_append_getElem hjn
    have htk2 : T.tabs.take (j + 1) = T.tabs.take j ++ [T.tabs[j]'hjT] := List.take_succ_eq_append_getElem hjT
    have hfile := tf.files j _ _ hqn hqT
    have hbef : ∀ m ∈ T.names.take j, m < T.names[j]'hjn := fun m hm => by
      obtain ⟨i, hi, rfl⟩ := List.getElem_of_mem hm
      rw [List.length_take] at hi
      rw [List.getElem_take]
      exact (List.pairwise_iff_getElem.1 tf.inc) i j (by omega) hjn (by omega)
    generalize T.names[j]'hjn = n at hqn hmem htk1 hfile hbef
    generalize T.tabs[j]'hjT = U at hqT hmT htk2 hfile
    obtain ⟨hUt, hUf⟩ := tf.tab U hmT
    have hUl : U.length < 1000000 := by
      have : U.length ≤ T.tabs.flatten.length := (List.sublist_flatten_of_mem hmT).length_le
      omega
    have hn6 := hns n hmem
    have hq : (lstT T.names T.laid)[j]? = some ⟨⟨#[UInt8.ofNat j]⟩, numS n, false⟩ := by
      rw [hLeq, List.getElem?_append_left (by unfold lstE; simp; omega)]
      exact lstE_at hqn
    obtain ⟨p31, ea, rd⟩ := wr_at sG hq
    refine ⟨p31, ⟨ea, by omega, e⟩, _, _, _, by rw [Int.toNat_natCast]; exact rd, svc_wr (w := ⟨⟨#[UInt8.ofNat j]⟩, numS n, false⟩) rfl ?_⟩
    have bx := push_at G (wrBox ⟨⟨#[UInt8.ofNat j]⟩, numS n, false⟩)
    have kx := keep_push G (wrBox ⟨⟨#[UInt8.ofNat j]⟩, numS n, false⟩)
    generalize G.push (wrBox ⟨⟨#[UInt8.ofNat j]⟩, numS n, false⟩) = G2 at bx kx
    have hks := numS_size (k := 5) (n := n) (by omega)
    refine ⟨_, wr_v bx, (atoi_spec (s := numS n) (n := n) (by omega) (atoi_digits n)).mono ?_⟩
    rintro vv h39 ⟨k39, rfl⟩
    have kG39 := kx.trans (k39.mono kx.size)
    refine ⟨_, _, rfl, _, reads_neq_nilI (by kernel_rfl), br_intro (fun e => by
      have : (false || decide ((n : Int) < 0)) = false := by rw [decide_eq_false (by omega)]; rfl
      rw [this] at e; cases e) fun _ => ⟨_, wr_k (k39.at bx (at_lt bx)), ?_⟩⟩
    have hck : ((⟨#[UInt8.ofNat j]⟩ : Str).toList == ([108, 97, 105, 100] : List UInt8)) = false := by
      rw [ByteArray.toList_eq]; simp
    show br ((⟨#[UInt8.ofNat j]⟩ : Str).toList == ([108, 97, 105, 100] : List UInt8)) _ _
    refine br_intro (fun e => by rw [hck] at e; cases e) fun _ => ?_
    have b39 := kG39.at L.box (at_lt L.box)
    refine ⟨fun H => Keep h39.size h39 H, Keep.refl _ _, _, rfl, _, fun H kH => rdd (kH.at b39 (at_lt b39)), (file_box b39 hnm (tabG.updM kG39.m (S := fun _ => False) id) (by omega)).mono ?_⟩
    rintro vv h103 ⟨k103, rfl⟩
    have kG103 := kG39.trans (k103.mono kG39.size)
    refine ⟨_, rfl, k103, (load_spec (T := U) (dG.keep kG103) hdn hfile hUt hUl hUf).mono ?_⟩
    rintro vv h106 ⟨k106, y2, rfl, hy2, ty2⟩
    have kG106 := kG103.trans (k106.mono kG103.size)
    have zG103 := kG103.size
    have z106 := k106.size
    have b106 := kG106.at L.box (at_lt L.box)
    have n106 : Vc.Own (IntE .i64) 3 h22.size h106 v.an v.kn v.cn (intsL (T.names.take j)) := L.nms.upd (kG106.upd fun _ => False) fun _ _ h => h
    have t106 : Vc.Own TbE 95 h22.size h106 v.aT v.kT v.cT v.ts := L.tbl.upd (kG106.upd fun _ => False) fun _ _ h => h
    have hbn : ∀ q, blk v.an q → h22.size ≤ q ∧ q < G.size := L.nms.block
    have hbt : ∀ q, blk v.aT q → h22.size ≤ q ∧ q < G.size := L.tbl.block
    have hnt1 : ¬ blk v.an t := fun hq => by have := (hbn t hq).1; omega
    have hnt2 : ¬ blk v.aT t := fun hq => by have := (hbt t hq).1; omega
    have hkn : v.kn ≤ 90 := by
      have := L.nms.1
      unfold intsL at this
      rw [List.length_map, List.length_take] at this
      omega
    have hkT : v.kT ≤ 90 := by
      have h1 := L.tbl.1
      have h2 := L.tbs.1
      rw [List.length_take] at h2
      omega
    have hmax : (if IntKind.i64.wrap ((n : Int) + (1 : Int)) > ((nxt (T.names.take j) : Nat) : Int) then IntKind.i64.wrap ((n : Int) + (1 : Int)) else ((nxt (T.names.take j) : Nat) : Int)) = ((n + 1 : Nat) : Int) := by
      have := nxt_le hbef
      rw [wrap_i64 (by omega) (by omega)]
      split <;> omega
    -- steps that come in any order
    have bsI : ∀ {H : Heap} {K : Value → Heap → Prop}, (∀ a H', Keep H.size H H' → Sl (IntE .i64) H' a 1 [(n : Int)] → K (.slice a 1 1) H') → SVC Tryz.prog (Instr.buildSlice 79 (1 : Nat) (Array.mk [((0 : Nat), Value.int .i64 (n : Int))])) H K := fun {H K} kk =>
      svc_buildSlice (bs_i (n : Int)) (kk _ _ (keep_push _ _) (own_box (E := IntE .i64) (T := 3) (n := 1) (xs := [(n : Int)]) rfl (Nat.le_refl H.size) (push_at H (.cells ((IntE .i64).enc (n : Int)).toArray 3 (0, 0)))).sl)
    have bsT : ∀ {H : Heap} {K : Value → Heap → Prop}, (∀ a H', Keep H.size H H' → Sl TbE H' a 1 [y2] → (∀ q, blk a q → q = H.size) → K (.slice a 1 1) H') → SVC Tryz.prog (Instr.buildSlice 80 (1 : Nat) (Array.mk [((0 : Nat), Value.pointer (some (Addr.mk y2 0 none)))])) H K := fun {H K} kk =>
      svc_buildSlice (bs_tb y2) (kk _ _ (keep_push _ _) (own_box (E := TbE) (T := 95) (n := 1) (xs := [y2]) rfl (Nat.le_refl H.size) (push_at H (.cells (TbE.enc y2).toArray 95 (0, 0)))).sl fun q ⟨p, e1, e2⟩ => by cases e1; exact e2.symm)
    have F109 : (∃ F : Nat → Heap → Prop, F = fun k H => k = 23 ∨ H[t]? = some (trBox d nm none v ⟨[], [], T.names.take j, T.tabs.take j, nxt (T.names.take j), if j ≤ T.names.length then 0 else T.laid, if j ≤ T.names.length then 0 else T.laid⟩)) := ⟨_, rfl⟩
    have lastS : ∀ {H : Heap} {a1 a2 : Option Addr} {c1 c2 : Nat}, h106.size ≤ H.size → Upd (fun q => blk v.an q ∨ blk v.aT q) h106 H → Vc.Own (IntE .i64) 3 h22.size H a1 (v.kn + 1) c1 (intsL (T.names.take j) ++ [(n : Int)]) → Vc.Own TbE 95 h22.size H a2 (v.kT + 1) c2 (v.ts ++ [y2]) →
        (∀ q, blk a1 q → blk v.an q ∨ h106.size ≤ q) → (∀ q, blk a2 q → blk v.aT q ∨ h106.size ≤ q) → (∀ q, blk a1 q → ¬ blk a2 q) →
        ∃ (p145 : Addr), some (Addr.mk t (0 : Nat) none) = some p145 ∧ SVC Tryz.prog (Instr.storeAt 79 (Value.pointer (some (p145.add (4 : Nat)))) (Value.slice a1 (v.kn + 1) c1)) H fun (x146 : Unit) (h147 : Heap) => ((23 : Nat) = 23 ∨ h147[t]? = some (trBox d nm none v ⟨[], [], T.names.take j, T.tabs.take j, nxt (T.names.take j), if j ≤ T.names.length then 0 else T.laid, if j ≤ T.names.length then 0 else T.laid⟩)) ∧
          ∃ (p148 : Addr), some (Addr.mk t (0 : Nat) none) = some p148 ∧ SVC Tryz.prog (Instr.storeAt 80 (Value.pointer (some (p148.add (5 : Nat)))) (Value.slice a2 (v.kT + 1) c2)) h147 fun (x149 : Unit) (h150 : Heap) => ((23 : Nat) = 23 ∨ h150[t]? = some (trBox d nm none v ⟨[], [], T.names.take j, T.tabs.take j, nxt (T.names.take j), if j ≤ T.names.length then 0 else T.laid, if j ≤ T.names.length then 0 else T.laid⟩)) ∧
            ∃ (p151 : Addr), some (Addr.mk t (0 : Nat) none) = some p151 ∧ SVC Tryz.prog (Instr.storeAt 3 (Value.pointer (some (p151.add (6 : Nat)))) (Value.int .i64 ((n + 1 : Nat) : Int))) h150 fun (x152 : Unit) (h153 : Heap) =>
              (∃ (j' : Nat) (v : Tv), IntKind.i64.wrap ((j : Int) + (1 : Int)) = j' ∧ j' ≤ T.names.length + 1 ∧ Tl T t d nm h22 j' v h153) ∧ T.names.length + 1 - (IntKind.i64.wrap ((j : Int) + (1 : Int))).toNat < T.names.length + 1 - ((j : Int)).toNat := by
      intro H a1 a2 c1 c2 zH uH o1 o2 f1 f2 f3
      have bH := uH.at b106 fun h => h.elim hnt1 hnt2
      refine ⟨_, rfl, svc_store_box (k := 4) zIs bH (by simp) rfl (one_slice _ _ _) fun h147 z147 b147 u147 => ⟨.inl rfl, _, rfl, ?_⟩⟩
      refine svc_store_box (k := 5) zTs b147 (by simp) rfl (one_slice _ _ _) fun h150 z150 b150 u150 => ⟨.inl rfl, _, rfl, ?_⟩
      refine svc_store_box (k := 6) kzI b150 (by simp) rfl (one_int _ _) fun h153 z153 b153 u153 => ?_
      have ut : Upd (fun q => q = t) H h153 := (u147.trans u150).trans u153
      have zt := ut.size
      have a1t : ¬ blk a1 t := fun h => (f1 t h).elim hnt1 fun h => by omega
      have a2t : ¬ blk a2 t := fun h => (f2 t h).elim hnt2 fun h => by omega
      rw [wrap_i64 (by omega) (by omega)]
      refine ⟨⟨j + 1, ⟨none, 0, 0, a1, v.kn + 1, c1, a2, v.kT + 1, c2, v.ts ++ [y2]⟩, rfl, by omega, ⟨?_, ⟨rfl, rfl, rfl⟩, ?_, ?_, ?_, f3, ?_⟩⟩, by omega⟩
      · rw [b153]
        obtain ⟨m1, m2, m3⟩ := L.m0
        rw [htk1, htk2, nxt_snoc, if_pos (by omega), if_pos (by omega), m1, m2, m3]; rfl
      · rw [htk1, intsL_app]
        exact o1.upd ut fun q hq e => a1t (by rw [← e]; exact hq)
      · exact o2.upd ut fun q hq e => a2t (by rw [← e]; exact hq)
      · rw [htk2]
        refine TbsAt.snoc ?_ ?_
        · refine ((((L.tbs.keep kG106).updM uH.m fun q hq h => h.elim hq.2.2.1 hq.2.2.2).updM ut.m fun q hq e => by omega)).mono fun q hq => ⟨hq.1, by omega, fun h => ?_, fun h => ?_⟩
          · rcases f1 q h with h | h
            · exact hq.2.2.1 h
            · omega
          · rcases f2 q h with h | h
            · exact hq.2.2.2 h
            · omega
        · refine ((ty2.updM uH.m fun q hq h => ?_).updM ut.m fun q hq e => by omega).mono fun q hq => ⟨by omega, by omega, fun h => ?_, fun h => ?_⟩
          · rcases h with h | h
            · have := hbn q h; omega
            · have := hbt q h; omega
          · rcases f1 q h with h | h
            · have := hbn q h; omega
            · omega
          · rcases f2 q h with h | h
            · have := hbt q h; omega
            · omega
      · exact ((L.up.trans (kG106.upd _)).trans' (uH.mono fun q h => .inr (h.elim (fun h => by have := hbn q h; omega) fun h => by have := hbt q h; omega))).trans ut
    have bxs : ∀ {H : Heap}, Upd (fun q => blk v.an q ∨ blk v.aT q) h106 H → H[t]? = some (trBox d nm none v ⟨[], [], T.names.take j, T.tabs.take j, nxt (T.names.take j), if j ≤ T.names.length then 0 else T.laid, if j ≤ T.names.length then 0 else T.laid⟩) := fun u => u.at b106 fun h => h.elim hnt1 hnt2
    have apI : ∀ {H1 : Heap} {aS : Option Addr} {K : Value → Heap → Prop}, Keep h106.size h106 H1 → Sl (IntE .i64) H1 aS 1 [(n : Int)] →
        (∀ a' c' H2, h106.size ≤ H2.size → Upd (fun q => blk v.an q ∨ blk v.aT q) h106 H2 → Vc.Own (IntE .i64) 3 h22.size H2 a' (v.kn + 1) c' (intsL (T.names.take j) ++ [(n : Int)]) → (∀ q, blk a' q → blk v.an q ∨ (h106.size ≤ q ∧ q < H2.size)) → Vc.Own TbE 95 h22.size H2 v.aT v.kT v.cT v.ts → (∀ a, Sl TbE H1 a 1 [y2] → (∀ q, blk a q → h106.size ≤ q) → Sl TbE H2 a 1 [y2]) → K (.slice a' (v.kn + 1) c') H2) →
        SVC Tryz.prog (Builtin.append_ (Array.mk [79, 79]) 79 (Array.mk [Value.slice v.an v.kn v.cn, Value.slice aS 1 1])) H1 K := by
      intro H1 aS K k1 sS kk
      have z1 := k1.size
      have o1 : Vc.Own (IntE .i64) 3 h22.size H1 v.an v.kn v.cn (intsL (T.names.take j)) := n106.upd (k1.upd fun _ => False) fun _ _ h => h
      refine svc_append app_is o1 (by omega) sS (by show (4 * (v.kn + 1) + 192) * 8 ≤ 2 ^ 48; omega) fun a' c' H2 o2 u2 b2 => kk a' c' H2 (by have := u2.size; omega) ((k1.upd _).trans (u2.mono fun q h => .inl h)) o2 (fun q hq => ?_) ?_ fun a sa ha => ?_
      · rcases b2 q hq with h | h
        · exact .inl h
        · exact .inr ⟨by omega, (o2.block q hq).2⟩
      · exact (t106.upd (k1.upd fun _ => False) fun _ _ h => h).upd u2 fun q hq h => L.dis q h hq
      · exact sa.upd u2 fun q hq h => by have h1 := ha q hq; have h2 := hbn q h; omega
    have apT : ∀ {H2 H3 : Heap} {a' aS : Option Addr} {c' : Nat}, h106.size ≤ H2.size → Upd (fun q => blk v.an q ∨ blk v.aT q) h106 H2 → Vc.Own (IntE .i64) 3 h22.size H2 a' (v.kn + 1) c' (intsL (T.names.take j) ++ [(n : Int)]) → (∀ q, blk a' q → blk v.an q ∨ (h106.size ≤ q ∧ q < H2.size)) → Vc.Own TbE 95 h22.size H2 v.aT v.kT v.cT v.ts → Keep H2.size H2 H3 → Sl TbE H3 aS 1 [y2] →
        SVC Tryz.prog (Builtin.append_ (Array.mk [80, 80]) 80 (Array.mk [Value.slice v.aT v.kT v.cT, Value.slice aS 1 1])) H3 fun (v140 : Value) (h141 : Heap) => ∃ (a142 : Option Addr), ∃ (k143 : Nat), ∃ (k144 : Nat), v140 = Value.slice a142 k143 k144 ∧ ((20 : Nat) = 23 ∨ h141[t]? = some (trBox d nm none v ⟨[], [], T.names.take j, T.tabs.take j, nxt (T.names.take j), if j ≤ T.names.length then 0 else T.laid, if j ≤ T.names.length then 0 else T.laid⟩)) ∧ ((23 : Nat) = 23 ∨ h141[t]? = some (trBox d nm none v ⟨[], [], T.names.take j, T.tabs.take j, nxt (T.names.take j), if j ≤ T.names.length then 0 else T.laid, if j ≤ T.names.length then 0 else T.laid⟩)) ∧
        ∃ (p145 : Addr), some (Addr.mk t (0 : Nat) none) = some p145 ∧ SVC Tryz.prog (Instr.storeAt 79 (Value.pointer (some (p145.add (4 : Nat)))) (Value.slice a' (v.kn + 1) c')) h141 fun (x146 : Unit) (h147 : Heap) => ((23 : Nat) = 23 ∨ h147[t]? = some (trBox d nm none v ⟨[], [], T.names.take j, T.tabs.take j, nxt (T.names.take j), if j ≤ T.names.length then 0 else T.laid, if j ≤ T.names.length then 0 else T.laid⟩)) ∧
          ∃ (p148 : Addr), some (Addr.mk t (0 : Nat) none) = some p148 ∧ SVC Tryz.prog (Instr.storeAt 80 (Value.pointer (some (p148.add (5 : Nat)))) (Value.slice a142 k143 k144)) h147 fun (x149 : Unit) (h150 : Heap) => ((23 : Nat) = 23 ∨ h150[t]? = some (trBox d nm none v ⟨[], [], T.names.take j, T.tabs.take j, nxt (T.names.take j), if j ≤ T.names.length then 0 else T.laid, if j ≤ T.names.length then 0 else T.laid⟩)) ∧
            ∃ (p151 : Addr), some (Addr.mk t (0 : Nat) none) = some p151 ∧ SVC Tryz.prog (Instr.storeAt 3 (Value.pointer (some (p151.add (6 : Nat)))) (Value.int .i64 ((n + 1 : Nat) : Int))) h150 fun (x152 : Unit) (h153 : Heap) =>
              (∃ (j' : Nat) (v : Tv), IntKind.i64.wrap ((j : Int) + (1 : Int)) = j' ∧ j' ≤ T.names.length + 1 ∧ Tl T t d nm h22 j' v h153) ∧ T.names.length + 1 - (IntKind.i64.wrap ((j : Int) + (1 : Int))).toNat < T.names.length + 1 - ((j : Int)).toNat := by
      intro H2 H3 a' aS c' z2 u2 o2 f2 t2 k3 sS
      have z3 := k3.size
      have t3 : Vc.Own TbE 95 h22.size H3 v.aT v.kT v.cT v.ts := t2.upd (k3.upd fun _ => False) fun _ _ h => h
      refine svc_append app_tb t3 (by omega) sS (by show (4 * (v.kT + 1) + 192) * 8 ≤ 2 ^ 48; omega) fun a4 c4 H4 o4 u4 b4 => ?_
      have z4 := u4.size
      have uH : Upd (fun q => blk v.an q ∨ blk v.aT q) h106 H4 := (u2.trans (k3.upd _)).trans (u4.mono fun q h => .inr h)
      refine ⟨_, _, _, rfl, .inr (bxs uH), .inl rfl, lastS (by omega) uH ?_ o4 (fun q hq => (f2 q hq).imp id fun h => h.1) (fun q hq => (b4 q hq).imp id fun h => by omega) fun q hq h4 => ?_⟩
      · refine (o2.upd (k3.upd fun _ => False) fun _ _ h => h).upd u4 fun q hq h => ?_
        rcases f2 q hq with h5 | h5
        · exact L.dis q h5 h
        · have := hbt q h; omega
      · rcases b4 q h4 with h5 | h5
        · rcases f2 q hq with h6 | h6
          · exact L.dis q h6 h5
          · have := hbt q h5; omega
        · have := o2.block q hq; omega
    refine ⟨_, _, rfl, br_intro (fun e => by simp at e) fun _ => ⟨fun k H => k = 23 ∨ H[t]? = some (trBox d nm none v ⟨[], [], T.names.take j, T.tabs.take j, nxt (T.names.take j), if j ≤ T.names.length then 0 else T.laid, if j ≤ T.names.length then 0 else T.laid⟩), .inr b106, .inr b106, .inr b106, .inl rfl, _, rfl, v.an, v.kn, v.cn, ?_, _, rfl, v.aT, v.kT, v.cT, ?_, _, rfl, ((nxt (T.names.take j) : Nat) : Int), ?_, ((n + 1 : Nat) : Int), ?_, ?_, ?_⟩⟩
    · rintro H (e | bH)
      · exact absurd e (by decide)
      · exact reads_load kIs (cell_cells bH rfl)
    · rintro H (e | bH)
      · exact absurd e (by decide)
      · exact reads_load kTs (cell_cells bH rfl)
    · rintro H (e | bH)
      · exact absurd e (by decide)
      · exact reads_load kI (cell_cells bH rfl)
    · intro H _
      have := reads_max (P := Tryz.prog) (k := .i64) (ts := Array.mk [3, 3]) (a := ((nxt (T.names.take j) : Nat) : Int)) (b := IntKind.i64.wrap ((n : Int) + (1 : Int))) (t := 3) (h := H)
      rw [hmax] at this
      exact this
    · refine bsI fun a127 h126 k126 s126 => ⟨_, _, _, rfl, .inr (bxs (k126.upd _)), .inr (bxs (k126.upd _)), .inr (bxs (k126.upd _)), .inl rfl, apI k126 s126 fun a' c' H2 z2 u2 o2 f2 t2 _ => ⟨_, _, _, rfl, .inr (bxs u2), .inr (bxs u2), .inl rfl, bsT fun a137 h136 k136 s136 _ => ?_⟩, bsT fun a156 h155 k155 s155 q155 => ?_⟩
      · have u3 := u2.trans (k136.upd fun q => blk v.an q ∨ blk v.aT q)
        exact ⟨_, _, _, rfl, .inr (bxs u3), .inr (bxs u3), .inr (bxs u3), .inl rfl, apT z2 u2 o2 f2 t2 k136 s136⟩
      · have k2 := k126.trans (k155.mono k126.size)
        refine ⟨_, _, _, rfl, .inr (bxs (k2.upd _)), .inr (bxs (k2.upd _)), .inr (bxs (k2.upd _)), .inl rfl, apI k2 (s126.keep k155) fun a' c' H2 z2 u2 o2 f2 t2 sT => ⟨_, _, _, rfl, .inr (bxs u2), .inr (bxs u2), .inl rfl, apT z2 u2 o2 f2 t2 (Keep.refl _ _) (sT _ s155 fun q hq => by have := q155 q hq; have := k126.size; omega)⟩⟩
    · refine bsT fun a180 h179 k179 s179 q179 => ⟨_, _, _, rfl, .inr (bxs (k179.upd _)), .inr (bxs (k179.upd _)), .inr (bxs (k179.upd _)), .inl rfl, bsI fun a185 h184 k184 s184 => ?_⟩
      have k2 := k179.trans (k184.mono k179.size)
      refine ⟨_, _, _, rfl, .inr (bxs (k2.upd _)), .inr (bxs (k2.upd _)), .inr (bxs (k2.upd _)), .inl rfl, apI k2 s184 fun a' c' H2 z2 u2 o2 f2 t2 sT => ⟨_, _, _, rfl, .inr (bxs u2), .inr (bxs u2), .inl rfl, apT z2 u2 o2 f2 t2 (Keep.refl _ _) (sT _ (s179.keep k184) fun q hq => by have := q179 q hq; omega)⟩⟩
  · -- what is laid
    have hjn2 : j = T.names.length := by omega
    subst hjn2
    have hq : (lstT T.names T.laid)[T.names.length]? = some ⟨laidKey, numS T.laid, false⟩ := by
      have hel : (lstE T.names).length = T.names.length := by unfold lstE; simp
      rw [hLeq, List.getElem?_append_right (by omega), hel, Nat.sub_self]; rfl
    obtain ⟨p31, ea, rd⟩ := wr_at sG hq
    refine ⟨p31, ⟨ea, by omega, e⟩, _, _, _, by rw [Int.toNat_natCast]; exact rd, svc_wr (w := ⟨laidKey, numS T.laid, false⟩) rfl ?_⟩
    have bx := push_at G (wrBox ⟨laidKey, numS T.laid, false⟩)
    have kx := keep_push G (wrBox ⟨laidKey, numS T.laid, false⟩)
    generalize G.push (wrBox ⟨laidKey, numS T.laid, false⟩) = G2 at bx kx
    have hks := numS_size (k := 5) (n := T.laid) (by omega)
    refine ⟨_, wr_v bx, (atoi_spec (s := numS T.laid) (n := T.laid) (by omega) (atoi_digits T.laid)).mono ?_⟩
    rintro vv h39 ⟨k39, rfl⟩
    have kG39 := kx.trans (k39.mono kx.size)
    refine ⟨_, _, rfl, _, reads_neq_nilI (by kernel_rfl), br_intro (fun e => by
      have : (false || decide ((T.laid : Int) < 0)) = false := by rw [decide_eq_false (by omega)]; rfl
      rw [this] at e; cases e) fun _ => ⟨_, wr_k (k39.at bx (at_lt bx)), ?_⟩⟩
    have hck : (laidKey.toList == ([108, 97, 105, 100] : List UInt8)) = true := by
      rw [ByteArray.toList_eq]; rfl
    show br (laidKey.toList == ([108, 97, 105, 100] : List UInt8)) _ _
    refine br_intro (fun _ => ⟨_, rfl, ?_⟩) fun e => by rw [hck] at e; cases e
    have b39 := kG39.at L.box (at_lt L.box)
    refine svc_store_box (k := 7) kzI b39 (by simp) rfl (one_int _ _) fun h94 z94 b94 u94 => ⟨_, rfl, ?_⟩
    refine svc_store_box (k := 8) kzI b94 (by simp) rfl (one_int _ _) fun h97 z97 b97 u97 => ?_
    have ut : Upd (fun q => q = t) G h97 := ((kG39.upd _).trans u94).trans u97
    have zt := ut.size
    rw [wrap_i64 (by omega) (by omega)]
    have t1 : T.names.take (T.names.length + 1) = T.names.take T.names.length := by rw [List.take_of_length_le (by omega), List.take_length]
    have t2 : T.tabs.take (T.names.length + 1) = T.tabs.take T.names.length := by rw [List.take_of_length_le (by omega), List.take_of_length_le (by omega)]
    have hbn : ∀ q, blk v.an q → h22.size ≤ q ∧ q < G.size := L.nms.block
    have hbt : ∀ q, blk v.aT q → h22.size ≤ q ∧ q < G.size := L.tbl.block
    refine ⟨⟨T.names.length + 1, v, rfl, Nat.le_refl _, ⟨?_, L.m0, ?_, ?_, ?_, L.dis, L.up.trans ut⟩⟩, by dsimp only; omega⟩
    · rw [b97, t1, t2, if_neg (show ¬ (T.names.length + 1 ≤ T.names.length) by omega)]; rfl
    · rw [t1]; exact L.nms.upd ut fun q hq e => by have := hbn q hq; omega
    · exact L.tbl.upd ut fun q hq e => by have := hbt q hq; omega
    · rw [t2]
      exact (L.tbs.updM ut.m fun q hq e => by omega).mono fun q hq => ⟨hq.1, by omega, hq.2.2⟩
end
end Go.Proofs.YtkhinnchplahlaaGreatDoor
end

section
set_option maxRecDepth 100000
namespace Go.Proofs.YtkhinnchplahlaaGreatDoor
open Go Go.Vc Go.Proofs Go.Dk Go.Kv Go.Ls Go.Cd
open Go.Pg (Quiet Nx layW partB nparts partsW partsW_len)

theorem LogAt.ne {h : Heap} {l d n c : Nat} {nm : Str} {A : Option Addr} {b : List UInt8} (hl : LogAt h l d nm A n c b) (hn : n ≠ 0) : ∀ q, blk A q → q ≠ l := by
  rintro q ⟨p, e, rfl⟩ e2
  have hlen := hl.sl.1
  cases hb : b with
  | nil => rw [hb] at hlen; simp at hlen; omega
  | cons x xs =>
    obtain ⟨p', e', hp⟩ := hl.sl.get (i := 0) (x := x) (by rw [hb]; rfl)
    rw [e] at e'
    cases e'
    have hc := hp 0 _ rfl
    rw [Nat.zero_mul, p9_0] at hc
    obtain ⟨pb, po, sp⟩ := p
    dsimp only at e2
    subst e2
    cases sp with
    | some s => unfold cell at hc; rw [hl.box] at hc; cases hc
    | none =>
      rw [cell_at hl.box] at hc
      match po, hc with
      | 0, hc => simp at hc
      | 1, hc => simp at hc
      | 2, hc => simp at hc
      | k + 3, hc => simp at hc
theorem logB_map (r : List (Nat × List Wr)) : logB r = (r.map fun p => recB p.1 p.2).flatMap frameB := by
  unfold logB
  rw [List.flatMap_map]
theorem mem_take {T : TS} {nm : Str} {F : Fs} (tf : TF nm F T) : ((T.recs.take T.recs.length).map (·.2)).flatten = T.mem := by
  rw [List.take_length]; exact tf.mem.symm
open Classical in
/-- what the blocks of a tree that was opened are for. -/
noncomputable def tagO (t l a e : Nat) (M B : Option Addr) (q : Nat) : Nat := if q = t then 1 else if q = l then 2 else if blk M q then 3 else if blk B q then 4 else if a ≤ q ∧ q < e then 5 else 0
section
variable {h : Heap} {d : Nat} {nm : Str} {N : Nat → Prop} {x : D}
set_option maxHeartbeats 4000000 in
theorem topen_spec {T : TS} (dn : DN N d x h) (hnm : nm.size ≤ 1000000) (tab : TabH h) (gbN : N gb) (tf : TF nm x.now T) (hq : Quiet x) (hnl : T.names.length ≤ 90) (hnx : T.next ≤ 100000) (hla : T.last < 1000000) (hTl : T.tabs.flatten.length ≤ 100000) (hm : T.mem.length ≤ 100000)
    (hsz : ∀ f ∈ names x.now, f.size ≤ 9223372036854775807) (hfl : x.now.length ≤ 1000000) (hlog : (logB T.recs).length ≤ 100000000) :
    HC Tryz.prog 11 #[.pointer (some ⟨d, 0, none⟩), .string nm] h fun vv h' => Keep h.size h h' ∧ ∃ t g, vv = .tuple #[.pointer (some ⟨t, 0, none⟩), .int .i64 0] ∧ TrAt g h' t d nm (tw T) ∧ (∀ q, g q ≠ 0 → h.size ≤ q ∧ q < h'.size) ∧ h.size ≤ t := by
  have hdn := hq.down
  have hld : T.laid < 1000000 := by unfold TS.last at hla; omega
  have hrl : T.recs.length < 1000000 := by unfold TS.last at hla; omega
  refine HC_of_vc (args := [.pointer (some ⟨d, 0, none⟩), .string nm]) (base := 86) (cuts := []) (bigs := []) kM Tryz.func11 ?_
  rw [vcLmOpen]
  have hdp : Tryz.prog.underlying 25 = some (.pointer (Tryz.prog.pointee 25)) := by kernel_rfl
  refine ⟨_, reads_eql_nil hdp, br_intro (fun e => by cases e) fun _ => dn.down.mono ?_⟩
  rintro vv h2 ⟨rfl, rfl⟩
  rw [hdn]
  have k1 := keep_push h2 (trBox d nm none ⟨none, 0, 0, none, 0, 0, none, 0, 0, []⟩ ⟨[], [], [], [], 0, 0, 0⟩)
  have b1 := push_at h2 (trBox d nm none ⟨none, 0, 0, none, 0, 0, none, 0, 0, []⟩ ⟨[], [], [], [], 0, 0, 0⟩)
  have z1 : (h2.push (trBox d nm none ⟨none, 0, 0, none, 0, 0, none, 0, 0, []⟩ ⟨[], [], [], [], 0, 0, 0⟩)).size = h2.size + 1 := by simp
  refine ⟨_, rfl, br_intro (fun e => by cases e) fun _ => ?_⟩
  show HC _ _ _ (h2.push (trBox d nm none ⟨none, 0, 0, none, 0, 0, none, 0, 0, []⟩ ⟨[], [], [], [], 0, 0, 0⟩)) _
  generalize h2.push (trBox d nm none ⟨none, 0, 0, none, 0, 0, none, 0, 0, []⟩ ⟨[], [], [], [], 0, 0, 0⟩) = H1 at k1 b1 z1
  have hgbl : gb < h2.size := dn.lt gbN
  have dn1 : DN (Nv N h2 H1) d x H1 := dn.wide2 k1
  refine (tell_spec b1 (.inr ⟨Nat.le_refl _, by omega⟩) hnm (tab.updM k1.m (S := fun _ => False) id) (by omega) dn1 tf hq hnl hnx hld hTl).mono ?_
  rintro vv h5 ⟨rfl, u5, v, h22, z22, L⟩
  have z5 := u5.size
  have k5 : Keep h2.size h2 h5 := k1.trans (u5.keep (by omega) fun q e => by omega)
  have tn : T.names.take (T.names.length + 1) = T.names := List.take_of_length_le (by omega)
  have tT : T.tabs.take (T.names.length + 1) = T.tabs := List.take_of_length_le (by have := tf.lens; omega)
  have hbox : h5[h2.size]? = some (trBox d nm none v ⟨[], [], T.names, T.tabs, T.next, T.laid, T.laid⟩) := by
    have := L.box
    rw [tn, tT, if_neg (show ¬ (T.names.length + 1 ≤ T.names.length) by omega)] at this
    exact this
  have hnms := L.nms
  rw [tn] at hnms
  have htbs := L.tbs
  rw [tT] at htbs
  have zL := L.up.size
  have hbn : ∀ q, blk v.an q → h22.size ≤ q ∧ q < h5.size := L.nms.block
  have hbt : ∀ q, blk v.aT q → h22.size ≤ q ∧ q < h5.size := L.tbl.block
  have dn5 := dn.keep k5
  have tab5 := tab.updM k5.m (S := fun _ => False) id
  refine ⟨_, rfl, br_intro (fun e => by simp at e) fun _ => (tidy_spec (T := T) hbox hnms.sl hnm tab5 dn5 tf hnx (by omega) hsz hfl).mono ?_⟩
  rintro vv h8 ⟨rfl, k8⟩
  have k08 := k5.trans (k8.mono k5.size)
  refine ⟨_, rfl, br_intro (fun e => by simp at e) fun _ => (lopen_spec (ss := T.recs.map fun p => recB p.1 p.2) (dn.keep k08) hq tf.log (logB_map T.recs) (fun s hs => ?_) hlog).mono ?_⟩
  · obtain ⟨p, hp, rfl⟩ := List.mem_map.1 hs
    have h1 : p.2.length ≤ T.mem.length := by
      rw [tf.mem]
      exact (List.sublist_flatten_of_mem (List.mem_map_of_mem (f := fun p : Nat × List Wr => p.2) hp)).length_le
    have h3 : p.1 ∈ T.recs.map (·.1) := List.mem_map_of_mem (f := fun p : Nat × List Wr => p.1) hp
    rw [tf.nums, List.mem_range'] at h3
    obtain ⟨i, hi, e⟩ := h3
    have := recB_size (n := p.1) (tf.fit p hp) (by omega) (by omega)
    omega
  rintro vv h11 ⟨k11, l, A, n, c, R, kR, cR, rfl, l11, sR, hl8, hA8, hR8⟩
  have z8 := k8.size
  have z11 := k11.size
  have b11 := k11.at (k8.at hbox (at_lt hbox)) (by have := at_lt hbox; omega)
  have htl : h2.size < h5.size := at_lt hbox
  refine ⟨_, _, _, _, _, rfl, br_intro (fun e => by simp at e) fun _ => ⟨_, rfl, ?_⟩⟩
  refine svc_store_box (k := 2) zLp b11 (by simp) rfl (one_pointer _) fun h19 z19 b19 u19 => ?_
  have b19' : h19[h2.size]? = some (trBox d nm (some ⟨l, 0, none⟩) v ⟨[], [], T.names, T.tabs, T.next, T.laid, T.laid⟩) := by rw [b19]; rfl
  have hRl : kR = T.recs.length := by have := sR.1; rw [List.length_map] at this; exact this.symm
  have u19' : Upd (fun q => q = h2.size) h11 h19 := u19
  have sR19 : Sl StrE h19 R kR (T.recs.map fun p => recB p.1 p.2) := sR.upd u19 fun q hq e => by have := hR8 q hq; omega
  have l19 : LogAt h19 l d nm A n c (logB T.recs) := l11.updM u19.m (fun e => by omega) fun h0 q hq e => by have := hA8 q hq; omega
  have k811 : Keep h5.size h5 h11 := k8.trans (k11.mono k8.size)
  have n19 : Vc.Own (IntE .i64) 3 h22.size h19 v.an v.kn v.cn (intsL T.names) := (hnms.upd (k811.upd fun _ => False) fun _ _ h => h).upd u19 fun q hq e => by have := hbn q hq; omega
  have t19 : Vc.Own TbE 95 h22.size h19 v.aT v.kT v.cT v.ts := (L.tbl.upd (k811.upd fun _ => False) fun _ _ h => h).upd u19 fun q hq e => by have := hbt q hq; omega
  have b19s : TbsAt (fun q => h22.size ≤ q ∧ q < h5.size ∧ ¬ blk v.an q ∧ ¬ blk v.aT q) h19 v.ts T.tabs := (htbs.keep k811).updM u19.m fun q hq e => by omega
  have zz19 := u19.size
  have hmem0 := L.m0
  refine ⟨fun _ _ n24 G => ∃ (j : Nat) (am : Option Addr) (km cm : Nat), n24 = j ∧ j ≤ T.recs.length ∧ G[h2.size]? = some (trBox d nm (some ⟨l, 0, none⟩) ⟨am, km, cm, v.an, v.kn, v.cn, v.aT, v.kT, v.cT, v.ts⟩ ⟨[], ((T.recs.take j).map (·.2)).flatten, T.names, T.tabs, T.next, T.laid + j, T.laid⟩) ∧
      Vc.Own WrE 42 h19.size G am km cm ((T.recs.take j).map (·.2)).flatten ∧ Upd (fun q => q = h2.size) h19 G, fun _ _ n24 _ => T.recs.length - n24.toNat,
    ⟨0, none, 0, 0, rfl, Nat.zero_le _, ?_, Vc.Own.nil _ _ _, Upd.refl _ _⟩, ?_⟩
  · obtain ⟨m1, m2, m3⟩ := hmem0
    rw [b19']
    simp only [trBox, m1, m2, m3]
    rfl
  rintro a22 n23 n24 G ⟨j, am, km, cm, rfl, hj, bG, oG, uG⟩
  have zG := uG.size
  have hob := oG.block
  refine br_intro (fun e => ?_) fun e => ?_
  · have e := of_decide_eq_true e
    have hjl : j < T.recs.length := by omega
    have hqr : T.recs[j]? = some (T.recs[j]'hjl) := List.getElem?_eq_getElem hjl
    have hmr := List.getElem_mem hjl
    have htk : T.recs.take (j + 1) = T.recs.take j ++ [T.recs[j]'hjl] := List.take_succ_eq_append_getElem hjl
    have hnum : (T.recs[j]'hjl).1 = T.laid + 1 + j := by
      have h1 : (T.recs.map (·.1))[j]? = some (T.recs[j]'hjl).1 := by rw [List.getElem?_map, hqr]; rfl
      rw [tf.nums, List.getElem?_range' hjl] at h1
      injection h1 with h1
      omega
    generalize T.recs[j]'hjl = r at hqr hmr htk hnum
    have hr2 : r.2.length ≤ T.mem.length := by
      rw [tf.mem]
      exact (List.sublist_flatten_of_mem (List.mem_map_of_mem (f := fun p : Nat × List Wr => p.2) hmr)).length_le
    have hqs : (T.recs.map fun p => recB p.1 p.2)[j]? = some (recB r.1 r.2) := by rw [List.getElem?_map, hqr]; rfl
    obtain ⟨p26, ea, hp26⟩ := (sR19.upd uG fun q hq e => by have := hR8 q hq; omega).get hqs
    refine ⟨p26, ⟨ea, by omega, e⟩, _, reads_load kS (by rw [Int.toNat_natCast]; exact hp26 0 _ rfl), (writes_spec (m := r.1) (l := r.2) (by omega) (by unfold TS.last at hla; omega) (tf.fit r hmr) (by omega)).mono ?_⟩
    rintro vv h29 ⟨k29, a31, k32, c33, rfl, o31⟩
    have b29 := k29.at bG (at_lt bG)
    have z29 := k29.size
    refine ⟨_, _, _, _, _, rfl, br_intro (fun e => by cases e) fun _ => ⟨_, rfl, _, reads_load kI (cell_cells b29 rfl), br_intro (fun _ => ?_) fun e => by
      have e : ¬ (((r.1 : Nat) : Int) > ((T.laid : Nat) : Int)) := of_decide_eq_false e
      omega⟩⟩
    have oG29 : Vc.Own WrE 42 h19.size h29 am km cm ((T.recs.take j).map (·.2)).flatten := oG.upd (k29.upd fun _ => False) fun _ _ h => h
    have hk32 := o31.1
    have hkm := oG.1
    have hml : ((T.recs.take j).map (·.2)).flatten.length ≤ T.mem.length := by
      rw [tf.mem, List.map_take]
      exact flat_le j
    refine ⟨_, rfl, _, _, _, reads_load kWsL (cell_cells b29 rfl), svc_append app_wr oG29 (by omega) o31.sl (by show (4 * (km + k32) + 192) * 40 ≤ 2 ^ 48; omega) fun a43 c45 h42 o42 u42 b42 => ⟨_, _, _, rfl, _, rfl, ?_⟩⟩
    have b42' := u42.at b29 fun hq => by have := (hob _ hq).1; omega
    have z42 := u42.size
    refine svc_store_box (k := 3) zWs b42' (by simp) rfl (one_slice _ _ _) fun h48 z48 b48 u48 => ⟨_, rfl, ?_⟩
    refine svc_store_box (k := 7) kzI b48 (by simp) rfl (one_int _ _) fun h51 z51 b51 u51 => ?_
    have ut : Upd (fun q => q = h2.size) h42 h51 := u48.trans u51
    rw [wrap_i64 (by omega) (by omega)]
    have hfl2 : ((T.recs.take (j + 1)).map (·.2)).flatten = ((T.recs.take j).map (·.2)).flatten ++ r.2 := by rw [htk, List.map_append, List.flatten_append]; simp
    refine ⟨⟨j + 1, a43, km + k32, c45, rfl, hjl, ?_, ?_, ?_⟩, by dsimp only; omega⟩
    · rw [b51, hfl2]
      have e9 : ((r.1 : Nat) : Int) = ((T.laid + (j + 1) : Nat) : Int) := by omega
      rw [e9]; rfl
    · rw [hfl2]
      refine o42.upd ut fun q hq e => ?_
      rcases b42 q hq with h1 | h1
      · have := (hob q h1).1; omega
      · omega
    · exact ((uG.trans (k29.upd _)).trans' (u42.mono fun q hq => .inr (by have := hob q hq; omega))).trans ut
  · have hjn : j = T.recs.length := by have := of_decide_eq_false e; omega
    subst hjn
    rw [mem_take tf] at bG oG
    have htOk : ∀ q, blk am q → h19.size ≤ q ∧ q < G.size := hob
    have htl2 : h2.size < l := by omega
    have g1 : tagO h2.size l h2.size G.size am v.aT h2.size = 1 := by unfold tagO; rw [if_pos rfl]
    have g2 : tagO h2.size l h2.size G.size am v.aT l = 2 := by unfold tagO; rw [if_neg (by omega), if_pos rfl]
    have hll : l < h11.size := at_lt l11.box
    have g3 : ∀ q, blk am q → tagO h2.size l h2.size G.size am v.aT q = 3 := fun q hq => by
      have := hob q hq
      unfold tagO; rw [if_neg (by omega), if_neg (by omega), if_pos hq]
    have g4 : ∀ q, blk v.aT q → tagO h2.size l h2.size G.size am v.aT q = 4 := fun q hq => by
      have h1 := hbt q hq
      unfold tagO; rw [if_neg (by omega), if_neg (by omega), if_neg (fun h => by have := hob q h; omega), if_pos hq]
    have g5 : ∀ q, q ≠ h2.size → q ≠ l → ¬ blk am q → ¬ blk v.aT q → h2.size ≤ q → q < G.size → tagO h2.size l h2.size G.size am v.aT q = 5 := fun q e1 e2 e3 e4 e5 e6 => by
      unfold tagO; rw [if_neg e1, if_neg e2, if_neg e3, if_neg e4, if_pos ⟨e5, e6⟩]
    have gne : ∀ q, tagO h2.size l h2.size G.size am v.aT q ≠ 0 → h2.size ≤ q ∧ q < G.size := fun q hq => by
      unfold tagO at hq
      by_cases e1 : q = h2.size
      · omega
      · rw [if_neg e1] at hq
        by_cases e2 : q = l
        · omega
        · rw [if_neg e2] at hq
          by_cases e3 : blk am q
          · have := hob q e3; omega
          · rw [if_neg e3] at hq
            by_cases e4 : blk v.aT q
            · have := hbt q e4; omega
            · rw [if_neg e4] at hq
              by_cases e5 : h2.size ≤ q ∧ q < G.size
              · exact e5
              · rw [if_neg e5] at hq; exact absurd rfl hq
    refine ⟨(k08.trans (k11.mono k08.size)).trans ((u19.trans uG).keep (by omega) fun q e => by omega), h2.size, tagO h2.size l h2.size G.size am v.aT, rfl, ⟨l, A, n, c, ⟨am, km, cm, v.an, v.kn, v.cn, v.aT, v.kT, v.cT, v.ts⟩, ⟨⟨?_, ?_, ?_, ?_, ?_, g1, g3, fun q hq => ?_, g4, fun q hq => (gne q hq).2⟩, ?_, g2, fun h0 q hq => ?_⟩⟩, gne, Nat.le_refl _⟩
    · rw [bG]; rfl
    · exact oG.mono (Nat.zero_le _)
    · exact (n19.upd uG fun q hq e => by have := hbn q hq; omega).mono (Nat.zero_le _)
    · exact (t19.upd uG fun q hq e => by have := hbt q hq; omega).mono (Nat.zero_le _)
    · exact (b19s.updM uG.m fun q hq e => by omega).mono fun q hq => g5 q (by omega) (by omega) (fun h => by have := hob q h; omega) hq.2.2.2 (by omega) (by omega)
    · have h1 := hbn q hq
      exact g5 q (by omega) (by omega) (fun h => by have := hob q h; omega) (L.dis q hq) (by omega) (by omega)
    · exact l19.updM uG.m (fun e => by omega) fun h0 q hq e => by have := hA8 q hq; omega
    · have h1 := hA8 q hq
      exact g5 q (by omega) (l11.ne h0 q hq) (fun h => by have := hob q h; omega) (fun h => by have := hbt q h; omega) (by omega) (by omega)
end
end Go.Proofs.YtkhinnchplahlaaGreatDoor
end

section
set_option maxRecDepth 100000
namespace Go.Proofs.YtkhinnchplahlaaGreatDoor
open Go Go.Vc Go.Proofs

theorem vc08Same (A : Option Addr) (n c : Nat) (B : Option Addr) (m d : Nat) (h : Heap) (R : Value → Heap → Prop) :
    vcF Tryz.prog Tryz.f20 26 [] [] [.slice A n c, .slice B m d] h R =
(br ((↑n : Int) != (↑m : Int)) (R (.bool false) h)
 (∃ (I0 : Bool → Int → Heap → Prop),
 ∃ (I1 : Bool → Int → Heap → Nat),
 I0 false (0 : Int) h ∧
 ∀ (b2 : Bool) (n3 : Int) (h4 : Heap),
 I0 b2 n3 h4 →
 br (decide (n3 < (↑n : Int)))
 (∃ (p5 : Addr),
 (A = some p5 ∧ (0 : Int) ≤ n3 ∧ n3 < (↑n : Int)) ∧
 ∃ (s6 : ByteArray),
 ∃ (s7 : ByteArray),
 Reads Tryz.prog (Instr.loadAt 53 (.pointer (some (p5.add (n3.toNat * 2))))) h4 (.agg (Array.mk [.string s6, .string s7])) ∧
 ∃ (p8 : Addr),
 (B = some p8 ∧ (0 : Int) ≤ n3 ∧ n3 < (↑m : Int)) ∧
 ∃ (s9 : ByteArray),
 ∃ (s10 : ByteArray),
 Reads Tryz.prog (Instr.loadAt 53 (.pointer (some (p8.add (n3.toNat * 2))))) h4 (.agg (Array.mk [.string s9, .string s10])) ∧
 ∃ (b11 : Bool),
 Reads Tryz.prog
 (eqSem BinOp.neq 53 (Operand.tmp 19) (Operand.tmp 23) (.agg (Array.mk [.string s6, .string s7]))
 (.agg (Array.mk [.string s9, .string s10])))
 h4 (.bool b11) ∧
 br b11 (R (.bool false) h4) (I0 b2 (IntKind.i64.wrap (n3 + (1 : Int))) h4 ∧ I1 b2 (IntKind.i64.wrap (n3 + (1 : Int))) h4 < I1 b2 n3 h4))
 (R (.bool true) h4))) := by kernel_rfl

end Go.Proofs.YtkhinnchplahlaaGreatDoor
end

section
set_option maxRecDepth 100000
namespace Go.Proofs.YtkhinnchplahlaaGreatDoor
open Go Go.Vc Go.Proofs Go.Dk Go.Kv

theorem agPr : agT Tryz.prog 53 2 = true := by kernel_rfl
theorem szPr : szOf Tryz.prog 53 = some 2 := by kernel_rfl
abbrev prBox (p : Str × Str) : Obj := .cells #[.string p.1, .string p.2] 53 (0, 0)
theorem pr_at {h : Heap} {A : Option Addr} {n k : Nat} {l : List (Str × Str)} {w : Str × Str} (hs : Sl StrPairE h A n l) (hq : l[k]? = some w) :
    ∃ p, A = some p ∧ Reads Tryz.prog (Instr.loadAt 53 (.pointer (some (p.add (k * 2))))) h (.agg (Array.mk [.string w.1, .string w.2])) := by
  obtain ⟨p, e, hp⟩ := hs.get hq
  exact ⟨p, e, reads_load_agg (cs := [.string w.1, .string w.2]) agPr rfl fun j v hv => by rw [Addr.add_add]; exact hp j v hv⟩
theorem svc_pr {w : Str × Str} {h : Heap} {old : Array Value} {K : Unit → Heap → Prop} (ho : old.size = 2) (k : K () (h.push (prBox w))) :
    SVC Tryz.prog (Instr.storeAt 53 (.pointer (some ⟨h.size, 0, none⟩)) (.agg (Array.mk [.string w.1, .string w.2]))) (h.push (.cells old 53 (0, 0))) K :=
  svc_store_new (v := .agg #[.string w.1, .string w.2]) szPr ho (fun v hv => StrPairE.one w v hv) k
section
variable {w : Str × Str} {h : Heap} {b : Nat}
theorem pr_k (hb : h[b]? = some (prBox w)) : Reads Tryz.prog (Instr.loadAt 9 (.pointer (some ⟨b, 0, none⟩))) h (.string w.1) := reads_load kS (cell_cells0 hb rfl)
theorem pr_v (hb : h[b]? = some (prBox w)) : Reads Tryz.prog (Instr.loadAt 9 (.pointer (some ((⟨b, 0, none⟩ : Addr).add 1)))) h (.string w.2) := reads_load kS (cell_cells hb rfl)
end

section
variable {h : Heap} {A : Option Addr} {n cc : Nat} {P : Ps Str}
end
end Go.Proofs.YtkhinnchplahlaaGreatDoor
end

section
set_option maxRecDepth 100000
namespace Go.Proofs.YtkhinnchplahlaaGreatDoor
open Go Go.Vc Go.Proofs Go.Dk Go.Kv Go.Ls Go.Cd
open Go.Pg (Quiet Nx layW partB nparts partsW partsW_len)

section
variable {g : Nat → Nat} {h h' : Heap} {t d n c : Nat} {nm : Str} {A : Option Addr} {N : Nat → Prop} {x : D}
theorem prPair : Tryz.prog.underlying 53 = some (.struct #[(Tryz.prog.fieldsOf 53)[0]!, (Tryz.prog.fieldsOf 53)[1]!]) := by kernel_rfl
theorem pr_flat : Flat Tryz.prog 53 #[(Tryz.prog.fieldsOf 53)[0]!, (Tryz.prog.fieldsOf 53)[1]!] := ⟨prPair, by kernel_rfl, by kernel_rfl⟩
theorem reads_pr_same {h : Heap} {x y : Operand} {p : Str × Str} : Reads Tryz.prog (eqSem .neq 53 x y (.agg (Array.mk [.string p.1, .string p.2])) (.agg (Array.mk [.string p.1, .string p.2]))) h (.bool false) := by
  refine (reads_eq pr_flat (r := true) ?_).2
  have e : eqFl Tryz.prog [.string p.1, .string p.2] [.string p.1, .string p.2] [(Tryz.prog.fieldsOf 53)[0]!, (Tryz.prog.fieldsOf 53)[1]!] = some ((p.1.toList == p.1.toList) && ((p.2.toList == p.2.toList) && true)) := by kernel_rfl
  refine Eq.trans e ?_
  simp
theorem same08_spec {B : Option Addr} {m d : Nat} {P : Ps Str} (hs : Sl StrPairE h A n P) (hs2 : Sl StrPairE h B m P) (hn : n ≤ 1000000) :
    HC Tryz.prog 20 #[.slice A n c, .slice B m d] h fun v h' => h' = h ∧ v = .bool true := by
  have hl := hs.1
  have hl2 := hs2.1
  have hnm : n = m := by omega
  subst hnm
  refine HC_of_vc (args := [.slice A n c, .slice B n d]) (base := 26) (cuts := []) (bigs := []) kM Tryz.func20 ?_
  rw [vc08Same]
  refine br_intro (fun e => by simp at e) fun _ => ⟨fun _ n3 H => ∃ j : Nat, n3 = j ∧ j ≤ n ∧ H = h, fun _ n3 _ => n - n3.toNat, ⟨0, rfl, Nat.zero_le _, rfl⟩, ?_⟩
  rintro b2 n3 H ⟨j, rfl, hj, rfl⟩
  refine br_intro (fun e => ?_) fun _ => ⟨rfl, rfl⟩
  have e := of_decide_eq_true e
  have hq : P[j]? = some (P[j]'(by omega)) := List.getElem?_eq_getElem (by omega)
  generalize P[j]'(by omega) = p at hq
  obtain ⟨p1, e1, r1⟩ := pr_at hs hq
  obtain ⟨p2, e2, r2⟩ := pr_at hs2 hq
  refine ⟨p1, ⟨e1, by omega, e⟩, _, _, by rw [Int.toNat_natCast]; exact r1, p2, ⟨e2, by omega, e⟩, _, _, by rw [Int.toNat_natCast]; exact r2, _, reads_pr_same, br_intro (fun e => by cases e) fun _ => ?_⟩
  rw [wrap_i64 (by omega) (by omega)]
  exact ⟨⟨j + 1, rfl, by omega, rfl⟩, by dsimp only; omega⟩
theorem srt_pairs (T : TS) : SrtP T.pairs := srt_doneAll _ srt_nil
end
end Go.Proofs.YtkhinnchplahlaaGreatDoor
end

section
namespace Go.Kv
open Go Go.Vc Go.Dk

def GoodE (P : Ps Str) (e : En) : Prop := e.is = (mGet P e.key).isSome ∧ e.val = (mGet P e.key).getD ⟨#[]⟩
def eput (most : Nat) (E : List En) (w : Wr) : List En := ekeep most E w.key (if w.gone then ⟨#[]⟩ else w.val) (!w.gone)
theorem efind_mem {k : Str} {E : List En} {e : En} (h : efind k E = some e) : e ∈ E ∧ e.key = k :=
  ⟨List.mem_of_find?_eq_some h, by unfold efind at h; have := List.find?_some h; exact of_decide_eq_true this⟩
theorem efind_no {k : Str} {E : List En} (h : (efind k E).isSome = false) : ∀ e ∈ E, e.key ≠ k := fun e he hk => by
  have h0 : efind k E = none := by cases hf : efind k E with
    | none => rfl
    | some x => rw [hf] at h; cases h
  exact List.find?_eq_none.1 h0 e he (decide_eq_true hk)
theorem ekeep_mem {most : Nat} {E : List En} {k v : Str} {is : Bool} {e : En} (h : e ∈ ekeep most E k v is) : e = ⟨k, v, is⟩ ∨ (e ∈ E ∧ (e.key ≠ k ∨ most = 0)) := by
  unfold ekeep at h
  split at h
  · rcases List.mem_append.1 h with h | h
    · obtain ⟨h1, h2⟩ := List.mem_filter.1 h
      exact .inr ⟨h1, .inl (of_decide_eq_true h2)⟩
    · exact .inl (List.mem_singleton.1 h)
  · rename_i hf
    have hno := efind_no (by simpa using hf)
    split at h
    · rename_i h0; exact .inr ⟨h, .inr h0⟩
    · rcases List.mem_append.1 h with h | h
      · have hE : e ∈ E := by
          split at h
          · exact List.mem_of_mem_tail h
          · exact h
        exact .inr ⟨hE, .inl (hno e hE)⟩
      · exact .inl (List.mem_singleton.1 h)
theorem ekeep_len {most : Nat} {E : List En} {k v : Str} {is : Bool} (h : E.length ≤ most) : (ekeep most E k v is).length ≤ most := by
  unfold ekeep
  split
  · rename_i hf
    obtain ⟨e, he⟩ := Option.isSome_iff_exists.1 hf
    obtain ⟨hm, hk⟩ := efind_mem he
    have : (ecut k E).length < E.length := by
      unfold ecut
      have h1 := List.length_filter_le (fun e => decide (e.key ≠ k)) E
      rcases Nat.lt_or_ge (E.filter fun e => decide (e.key ≠ k)).length E.length with h2 | h2
      · exact h2
      · have h3 := List.length_filter_eq_length_iff.1 (Nat.le_antisymm h1 h2) e hm
        simp [hk] at h3
    rw [List.length_append, List.length_singleton]; omega
  · split
    · exact h
    · split
      · rw [List.length_append, List.length_tail, List.length_singleton]; omega
      · rw [List.length_append, List.length_singleton]; omega
theorem good_get {P : Ps Str} {most : Nat} {E : List En} (hE : ∀ e ∈ E, GoodE P e) (k : Str) : ∀ e ∈ ekeep most E k ((mGet P k).getD ⟨#[]⟩) (mGet P k).isSome, GoodE P e := fun e he => by
  rcases ekeep_mem he with rfl | ⟨h, _⟩
  · exact ⟨rfl, rfl⟩
  · exact hE e h
theorem good_put {P : Ps Str} (hs : SrtP P) {most : Nat} {E : List En} (hl : E.length ≤ most) (hE : ∀ e ∈ E, GoodE P e) (w : Wr) : ∀ e ∈ eput most E w, GoodE (done1 P w) e := fun e he => by
  unfold GoodE
  rw [get_done1 hs]
  rcases ekeep_mem he with rfl | ⟨h, h2⟩
  · dsimp only
    rw [if_pos rfl]
    cases w.gone <;> exact ⟨rfl, rfl⟩
  · have hne : e.key ≠ w.key := by
      rcases h2 with h2 | h2
      · exact h2
      · subst h2
        have : E = [] := List.eq_nil_of_length_eq_zero (by omega)
        rw [this] at h; cases h
    rw [if_neg hne]
    exact hE e h
theorem eput_len {most : Nat} {E : List En} (h : E.length ≤ most) (w : Wr) : (eput most E w).length ≤ most := ekeep_len h
theorem good_puts {most : Nat} : ∀ (l : List Wr) {P : Ps Str} {E : List En}, SrtP P → E.length ≤ most → (∀ e ∈ E, GoodE P e) → ∀ e ∈ l.foldl (eput most) E, GoodE (doneAll P l) e
  | [], _, _, _, _, h => h
  | w :: l, _, _, hs, hl, h => good_puts l (srt_done1 hs w) (eput_len hl w) (good_put hs hl h w)
end Go.Kv
end

section
namespace Go.Kv
open Go Go.Vc Go.Dk

theorem hc_stay {P : Program} {f : FuncId} {args : Array Value} {h : Heap} {Q : Value → Heap → Prop} (hc : HC P f args h fun v h' => Turn h h' ∧ Q v h') : HC P f args h fun v h' => Keep h.size h h' ∧ Q v h' := by
  refine ⟨fun w hw => (hc.run w hw).mono ?_⟩
  rintro e w' ⟨v, rfl, hs, t, q⟩
  refine ⟨v, rfl, hs, ⟨t.size, fun b hb => ?_⟩, q⟩
  subst hw
  have hb' : w.heap[b]? = some (w.heap[b]'hb) := Array.getElem?_eq_getElem hb
  cases hm : isMark (w.heap[b]'hb) with
  | true => rw [hb']; exact hs.marks b _ hb' hm
  | false => rw [hb']; exact t.stay b _ hb' hm
theorem ekeep_nil {most : Nat} (hm : most ≠ 0) (k v : Str) (is : Bool) : ekeep most [] k v is = [⟨k, v, is⟩] := by
  unfold ekeep
  rw [show efind k [] = none from rfl, if_neg (by decide), if_neg hm]
  split <;> rfl
theorem ekeep_one {k v k' v' : Str} {is is' : Bool} : ekeep 1 [⟨k, v, is⟩] k' v' is' = [⟨k', v', is'⟩] := by
  by_cases h : k = k'
  · subst h; simp [ekeep, efind, ecut]
  · simp [ekeep, efind, ecut, h]
theorem efind_one {k v k' : Str} {is : Bool} : (efind k' [⟨k, v, is⟩]).isSome = decide (k = k') := by
  by_cases h : k = k'
  · subst h; simp [efind]
  · simp [efind, h]
end Go.Kv
end

section
set_option maxRecDepth 100000
namespace Go.Proofs.YtkhinnchplahlaaGreatDoor
open Go Go.Vc Go.Proofs Go.Dk Go.Kv Go.Ls Go.Cd
open Go.Pg (Quiet Nx layW partB nparts partsW partsW_len)

def nmT : Str := ⟨#[116]⟩
def w1 : Wr := ⟨⟨#[97]⟩, ⟨#[49]⟩, false⟩
def w2 : Wr := ⟨⟨#[97]⟩, ⟨#[]⟩, true⟩
def w3 : Wr := ⟨⟨#[98]⟩, ⟨#[50]⟩, false⟩
def T0 : TS := ⟨[], [], [], [], 0⟩
theorem new_dn (h : Heap) (room : Int) : HC Tryz.prog 10 #[.int .i64 room] h fun v h' => Keep h.size h h' ∧ ∃ d, v = .pointer (some ⟨d, 0, none⟩) ∧ DN (fun q => q < h.size) d (Dk.new room) h' :=
  (new_spec h room).mono fun v h' ⟨k, d, e, hd⟩ => ⟨k, d, e, _, hd, fun q h1 h2 => by omega, fun q hq => Nat.lt_of_lt_of_le hq k.size⟩
theorem new_quiet (room : Int) : Quiet (Dk.new room) := ⟨rfl, rfl⟩
end Go.Proofs.YtkhinnchplahlaaGreatDoor
end

section
namespace Go.Vc
open Go Go.RowKit

def DecZ {α : Type} (E : Enc α) (P : Program) (e : TypeId) (good : World → α → Prop) : Prop :=
  ∀ {H : Type} {enc : TypeId × Value → H} {w : World} {base : Nat} {spare : Nat → Bool} {held : Bool} {n : Nat} {cs : List Value} {d : DataW H × List MemPlace},
    DataW.trod enc P w base spare held n e cs = some d → (∀ k ∈ d.1.weights P e, k ≤ reachBytes) → ∃ x, cs = E.enc x ∧ good w x
theorem DecW.z {α : Type} {E : Enc α} {P : Program} {e : TypeId} {good : World → α → Prop} (h : DecW E P e good) : DecZ E P e good := fun hd _ => h hd
theorem decStrZ {P : Program} {e : TypeId} (he : P.underlying e = some .string) : DecZ StrE P e fun _ s => s.size ≤ reachBytes := fun {H enc w base spare held n cs d} h hw => by
  obtain ⟨s, rfl, rfl, hs⟩ := DataW.trod_string he h
  refine ⟨s, rfl, ?_⟩
  have := hw s.data.toList.length (by simp [DataW.weights])
  rw [Array.length_toList] at this
  exact this
theorem weights_mem_all {H : Type} {P : Program} {e : TypeId} : ∀ {l : List (DataW H)} {d : DataW H}, d ∈ l → ∀ k ∈ d.weights P e, k ∈ DataW.weightsAll P e l
  | x :: l, d, hd, k, hk => by
    simp only [DataW.weightsAll, List.mem_append]
    rcases List.mem_cons.1 hd with rfl | hd
    · exact .inl hk
    · exact .inr (weights_mem_all hd k hk)
theorem decSliceZ {α : Type} [Inhabited α] {E : Enc α} {good : World → α → Prop} {P : Program} {t e : TypeId} (ht : P.underlying t = some (.slice e)) (ce : P.cellsOf e = E.sz) (cb : 0 < P.bytesOf e) (dec : DecZ E P e good) :
    DecZ SliceE P t fun w s => SlG E good w s ∧ s.2.1 ≤ reachBytes := fun {H enc w base spare held fuel cs d} hf hw => by
  rcases DataW.trod_slice ht hf with ⟨hcs, _⟩ | ⟨x, len, cap, elems, rest, n, _, hcs, hd, hb, hl, hm, hel, hx, _⟩
  · exact ⟨(none, 0, 0), hcs, ⟨[], Sl.nil _ _, Nat.le_refl _, by show (0 : Nat) ≤ _; omega, by simp⟩, Nat.zero_le _⟩
  · subst hd
    have hwt : DataW.weights P t (DataW.slice (elems.map (·.1)) (rest.map (·.1))) = ((elems.map (·.1)).length + (rest.map (·.1)).length) * P.bytesOf e :: (DataW.weightsAll P e (elems.map (·.1)) ++ DataW.weightsAll P e (rest.map (·.1))) := by
      simp [DataW.weights, ht]
    dsimp only at hw
    rw [hwt] at hw
    have hlen : len ≤ reachBytes := by
      have h1 := hw _ List.mem_cons_self
      rw [List.length_map, hel] at h1
      have h2 : len + (rest.map (·.1)).length ≤ (len + (rest.map (·.1)).length) * P.bytesOf e := Nat.le_mul_of_pos_right _ cb
      omega
    unfold maxLen at hm
    refine ⟨(some x, len, cap), hcs, ?_, hlen⟩
    have each : ∀ i, i < len → ∃ y : α, (∀ j v, (E.enc y)[j]? = some v → cell w.heap (x.add (i * E.sz + j)) = some v) ∧ good w y := fun i hi => by
      have h1 := hx i hi
      have hi2 : i < elems.length := by omega
      rw [List.getElem?_eq_getElem hi2, ce] at h1
      obtain ⟨cs', h2, h3⟩ := Option.bind_eq_some_iff.1 h1
      obtain ⟨_, hlen, hcell⟩ := World.cells?_some h2
      obtain ⟨y, rfl, hg⟩ := dec h3 fun k hk => hw k (List.mem_cons_of_mem _ (List.mem_append_left _ (weights_mem_all (List.mem_map_of_mem (f := fun p : DataW H × List MemPlace => p.1) (List.getElem_mem hi2)) k hk)))
      refine ⟨y, fun j v hv => ?_, hg⟩
      have hj : j < E.sz := by rw [← E.len y]; exact (List.getElem?_eq_some_iff.1 hv).1
      have := hcell j hj
      rw [Addr.add_add] at this
      rw [← cell_eq, this, hv]
    obtain ⟨X, hX⟩ := Deep.choose_lt each
    refine ⟨(List.range len).map X, ⟨by simp, .inr ⟨x, rfl, fun i y hy j v hv => ?_⟩⟩, hl, by show len ≤ _; omega, fun y hy => ?_⟩
    · have hi : i < len := by have := (List.getElem?_eq_some_iff.1 hy).1; simpa using this
      simp [hi] at hy
      subst hy
      exact (hX i hi).1 j v hv
    · obtain ⟨i, hi, rfl⟩ := List.mem_map.1 hy
      exact (hX i (List.mem_range.1 hi)).2
theorem open_slZ {α : Type} [Inhabited α] {E : Enc α} {good : World → α → Prop} {P : Program} {t e : TypeId} {H : Type} {enc : TypeId × Value → H} {w : World} {base : Nat} {spare : Nat → Bool} {held : Bool} {a : Option Addr} {n c : Nat} {d : DataW H} {ps : List MemPlace}
    (ht : P.underlying t = some (.slice e)) (ce : P.cellsOf e = E.sz) (cb : 0 < P.bytesOf e) (dec : DecZ E P e good) (h : DataW.Trod enc P w base spare held t (.slice a n c) d ps) (hw : ∀ k ∈ d.weights P t, k ≤ reachBytes) : SlG E good w (a, n, c) := by
  obtain ⟨fuel, hf⟩ := h
  obtain ⟨s, e0, g⟩ := decSliceZ ht ce cb dec hf hw
  have : (a, n, c) = s := by
    simp [Value.cells, SliceE] at e0
    obtain ⟨rfl, rfl, rfl⟩ := e0
    rfl
  rw [this]; exact g.1
theorem weights_at {H : Type} {P : Program} {ts : List TypeId} {ds : List (DataW H)} (h : (DataW.weightsEach P ts ds).all (· ≤ reachBytes) = true) {j : Nat} {t : TypeId} {d : DataW H} (ht : ts[j]? = some t) (hd : ds[j]? = some d) : ∀ k ∈ d.weights P t, k ≤ reachBytes := fun k hk => by
  have := List.all_eq_true.1 h k (DataW.weights_mem_each ht hd k hk)
  exact of_decide_eq_true this
theorem fldZ {H : Type} {enc : TypeId × Value → H} {P : Program} {w : World} {base : Nat} {spare : Nat → Bool} {held : Bool} {n : Nat} {u : TypeId} {cs : List Value} {fs : Array Field} {xs : List (DataW H × List MemPlace)} (hu : P.underlying u = some (.struct fs))
    (h : ∀ (i : Nat) (f : Field), fs[i]? = some f → DataW.trod enc P w base spare held n f.type ((cs.drop f.offset).take (P.cellsOf f.type)) = xs[i]?) (hl : xs.length = fs.size)
    (hw : ∀ k ∈ (DataW.agg (xs.map (·.1)) : DataW H).weights P u, k ≤ reachBytes) (i : Nat) {f : Field} {t : TypeId} {o : Nat}
    (hf : fs[i]? = some f) (ht : f.type = t) (ho : f.offset = o) (hc : P.cellsOf f.type = 1) : ∃ x, DataW.trod enc P w base spare held n t ((cs.drop o).take 1) = some x ∧ ∀ k ∈ x.1.weights P t, k ≤ reachBytes := by
  have hi : i < xs.length := by rw [hl]; exact (Array.getElem?_eq_some_iff.1 hf).1
  have := h i f hf
  rw [ht, ho, ← ht, hc, ht, List.getElem?_eq_getElem hi] at this
  refine ⟨_, this, fun k hk => hw k ?_⟩
  have hwt : (DataW.agg (xs.map (·.1)) : DataW H).weights P u = DataW.weightsEach P (fs.toList.map (·.type)) (xs.map (·.1)) := by simp [DataW.weights, hu]
  rw [hwt]
  refine DataW.weights_mem_each (j := i) (t := t) (d := xs[i].1) ?_ ?_ k hk
  · rw [List.getElem?_map, Array.getElem?_toList, hf, ← ht]; rfl
  · rw [List.getElem?_map, List.getElem?_eq_getElem hi]; rfl
end Go.Vc
end

section
set_option maxRecDepth 100000
namespace Go.Proofs.YtkhinnchplahlaaGreatDoor
open Go Go.Vc Go.Proofs Go.Dk Go.Kv Go.Ls Go.Cd
open Go.Pg (Quiet Nx)

structure Sp where
  a : Option Addr
  ln : Nat
  cp : Nat
  from_ : Str
  n : Int
  sync : Bool
  again : Bool
  fuse : Int
  keep : Int
  ws : List Wr
instance : Inhabited Sp := ⟨⟨none, 0, 0, ⟨#[]⟩, 0, false, false, 0, 0, []⟩⟩
def WrOk (w : Wr) : Prop := w.key.size ≤ reachBytes ∧ w.val.size ≤ reachBytes
theorem uI : Tryz.prog.underlying 3 = some (.int .i64) := by kernel_rfl
theorem uB : Tryz.prog.underlying 4 = some .bool := by kernel_rfl
theorem uW : Tryz.prog.underlying 42 = some (.struct #[(Tryz.prog.fieldsOf 42)[0]!, (Tryz.prog.fieldsOf 42)[1]!, (Tryz.prog.fieldsOf 42)[2]!]) := by kernel_rfl
theorem uWs : Tryz.prog.underlying 32 = some (.slice 42) := by kernel_rfl
theorem decWr : DecZ WrE Tryz.prog 42 fun _ w => WrOk w := fun {H enc w base spare held n cs d} h hw => by
  obtain ⟨xs, m, _, rfl, hl, hx, hf⟩ := DataW.trod_struct uW h
  obtain ⟨_, f0, z0⟩ := fldZ (t := 9) (o := 0) uW hf hx hw 0 rfl (by kernel_rfl) (by kernel_rfl) (by kernel_rfl)
  obtain ⟨_, f1, z1⟩ := fldZ (t := 9) (o := 1) uW hf hx hw 1 rfl (by kernel_rfl) (by kernel_rfl) (by kernel_rfl)
  obtain ⟨_, f2, _⟩ := fldZ (t := 4) (o := 2) uW hf hx hw 2 rfl (by kernel_rfl) (by kernel_rfl) (by kernel_rfl)
  have hl2 : cs.length = 3 := hl.trans (by kernel_rfl)
  match cs, hl2 with
  | [a, b, c], _ =>
    obtain ⟨s0, e0, g0⟩ := decStrZ uS f0 z0
    obtain ⟨s1, e1, g1⟩ := decStrZ uS f1 z1
    obtain ⟨s2, e2, g2⟩ := decBool uB f2
    simp [StrE, BoolE] at e0 e1 e2
    subst e0 e1 e2
    exact ⟨⟨s0, s1, s2⟩, rfl, g0, g1⟩
section
variable {w : Sp} {h : Heap} {b : Nat}
end
theorem sl_lt {α : Type} {E : Enc α} {h : Heap} {a : Option Addr} {n : Nat} {xs : List α} (hz : 0 < E.sz) (hs : Sl E h a n xs) (hx : n ≠ 0) : ∀ q, blk a q → q < h.size := fun q hq => by
  cases xs with
  | nil => exact absurd hs.1.symm hx
  | cons x xs =>
    obtain ⟨p, hp, hc⟩ := hs.get (i := 0) (x := x) rfl
    obtain ⟨p', e, hq'⟩ := hq
    rw [hp] at e
    cases e
    have hj : 0 < (E.enc x).length := by rw [E.len]; exact hz
    have h4 := cell_lt (hc 0 _ (List.getElem?_eq_getElem hj))
    rw [Addr.add_block, hq'] at h4
    exact h4
end Go.Proofs.YtkhinnchplahlaaGreatDoor
end

section
set_option maxRecDepth 100000
namespace Go.Proofs.YtkhinnchplahlaaGreatDoor
open Go Go.Vc Go.Proofs

theorem vcCNew (s : Nat) (most : Int) (h : Heap) (R : Value → Heap → Prop) :
    vcF Tryz.prog Tryz.f26 28 [] [] [.pointer (some ⟨s, 0, none⟩), .int .i64 most] h R =
(∃ (n0 : Int),
 Reads Tryz.prog (Builtin.max_ (Array.mk [3, 3]) 3 (Array.mk [.int .i64 most, .int .i64 (0 : Int)])) h (.int .i64 n0) ∧
 ∃ (n1 : Int),
 Reads Tryz.prog (Builtin.min_ (Array.mk [3, 3]) 3 (Array.mk [.int .i64 n0, .int .i64 (1024 : Int)])) h (.int .i64 n1) ∧
 ∃ (p2 : Addr),
 some (Addr.mk (Array.push h (Obj.map (Array.mk []) 0)).size 0 none) = some p2 ∧
 ∃ (p3 : Addr),
 some (Addr.mk (Array.push h (Obj.map (Array.mk []) 0)).size 0 none) = some p3 ∧
 ∃ (p4 : Addr),
 some (Addr.mk (Array.push h (Obj.map (Array.mk []) 0)).size 0 none) = some p4 ∧
 SVC Tryz.prog (Instr.storeAt 116 (.pointer (some ((p4.add 3).add 3))) (.pointer (some (p2.add 3))))
 ((Array.push h (Obj.map (Array.mk []) 0)).push
 (Obj.cells
 (Array.mk
 [.pointer (some (Addr.mk s 0 none)), .int .i64 n1, .map (some (Array.size h)), .string (ByteArray.mk (Array.mk [])),
 .string (ByteArray.mk (Array.mk [])), .bool false, .pointer none, .pointer none, .int .i64 (0 : Int)])
 120))
 fun (x5 : Unit) (h6 : Heap) =>
 ∃ (p7 : Addr),
 some (Addr.mk (Array.push h (Obj.map (Array.mk []) 0)).size 0 none) = some p7 ∧
 SVC Tryz.prog (Instr.storeAt 116 (.pointer (some ((p7.add 3).add 4))) (.pointer (some (p3.add 3)))) h6
 fun (x8 : Unit) (h9 : Heap) => R (.pointer (some (Addr.mk (Array.push h (Obj.map (Array.mk []) 0)).size 0 none))) h9) := by kernel_rfl

theorem vcCGet (c : Nat) (k : ByteArray) (h : Heap) (R : Value → Heap → Prop) :
    vcF Tryz.prog Tryz.f27 61 [] [] [.pointer (some ⟨c, 0, none⟩), .string k] h R =
(∃ (b0 : Bool),
 Reads Tryz.prog (eqSem BinOp.eql 59 (Operand.tmp 11) (Operand.const (.pointer none)) (.pointer (some (Addr.mk c 0 none))) (.pointer none)) h (.bool b0) ∧
 br b0 (R (.tuple (Array.mk [.string (ByteArray.mk (Array.mk [])), .bool false, .int .i64 (2 : Int)])) h)
 (∃ (p1 : Addr),
 some (Addr.mk c 0 none) = some p1 ∧
 ∃ (a2 : Option Nat),
 Reads Tryz.prog (Instr.loadAt 115 (.pointer (some (p1.add 2)))) h (.map a2) ∧
 ∃ (a3 : Option Addr),
 Reads Tryz.prog (Instr.lookup 115 (.map a2) (.string k) false) h (.pointer a3) ∧
 ∃ (b4 : Bool),
 Reads Tryz.prog (eqSem BinOp.neq 116 (Operand.tmp 19) (Operand.const (.pointer none)) (.pointer a3) (.pointer none)) h (.bool b4) ∧
 br b4
 (∃ (p5 : Addr),
 some (Addr.mk c 0 none) = some p5 ∧
 ∃ (n6 : Int),
 Reads Tryz.prog (Instr.loadAt 3 (.pointer (some (p5.add 8)))) h (.int .i64 n6) ∧
 ∃ (p7 : Addr),
 some (Addr.mk c 0 none) = some p7 ∧
 SVC Tryz.prog (Instr.storeAt 3 (.pointer (some (p7.add 8))) (.int .i64 (IntKind.i64.wrap (n6 + (1 : Int))))) h
 fun (x8 : Unit) (h9 : Heap) =>
 HC Tryz.prog 56 (Array.mk [.pointer a3]) h9 fun (v10 : Value) (h11 : Heap) =>
 v10 = .tuple (Array.mk []) ∧
 HC Tryz.prog 57 (Array.mk [.pointer (some (Addr.mk c 0 none)), .pointer a3]) h11 fun (v12 : Value) (h13 : Heap) =>
 v12 = .tuple (Array.mk []) ∧
 ∃ (p14 : Addr),
 a3 = some p14 ∧
 ∃ (s15 : ByteArray),
 Reads Tryz.prog (Instr.loadAt 9 (.pointer (some (p14.add 1)))) h13 (.string s15) ∧
 ∃ (p16 : Addr),
 a3 = some p16 ∧
 ∃ (b17 : Bool),
 Reads Tryz.prog (Instr.loadAt 4 (.pointer (some (p16.add 2)))) h13 (.bool b17) ∧
 R (.tuple (Array.mk [.string s15, .bool b17, .int .i64 (0 : Int)])) h13)
 (∃ (p18 : Addr),
 some (Addr.mk c 0 none) = some p18 ∧
 ∃ (a19 : Option Addr),
 Reads Tryz.prog (Instr.loadAt 56 (.pointer (some p18))) h (.pointer a19) ∧
 HC Tryz.prog 58 (Array.mk [.pointer a19, .string k]) h fun (v20 : Value) (h21 : Heap) =>
 ∃ (s22 : ByteArray),
 ∃ (b23 : Bool),
 ∃ (n24 : Int),
 v20 = .tuple (Array.mk [.string s22, .bool b23, .int .i64 n24]) ∧
 br (n24 == (0 : Int))
 (HC Tryz.prog 59 (Array.mk [.pointer (some (Addr.mk c 0 none)), .string k, .string s22, .bool b23]) h21
 fun (v25 : Value) (h26 : Heap) =>
 v25 = .tuple (Array.mk []) ∧ R (.tuple (Array.mk [.string s22, .bool b23, .int .i64 n24])) h26)
 (R (.tuple (Array.mk [.string s22, .bool b23, .int .i64 n24])) h21)))) := by kernel_rfl

theorem vcCApply (c : Nat) (A : Option Addr) (n m : Nat) (h : Heap) (R : Value → Heap → Prop) :
    vcF Tryz.prog Tryz.f28 38 [] [] [.pointer (some ⟨c, 0, none⟩), .slice A n m] h R =
(∃ (b0 : Bool),
 Reads Tryz.prog (eqSem BinOp.eql 59 (Operand.tmp 8) (Operand.const (.pointer none)) (.pointer (some (Addr.mk c 0 none))) (.pointer none)) h (.bool b0) ∧
 br b0 (R (.int .i64 (2 : Int)) h)
 (∃ (p1 : Addr),
 some (Addr.mk c 0 none) = some p1 ∧
 ∃ (a2 : Option Addr),
 Reads Tryz.prog (Instr.loadAt 56 (.pointer (some p1))) h (.pointer a2) ∧
 HC Tryz.prog 60 (Array.mk [.pointer a2, .slice A n m]) h fun (v3 : Value) (h4 : Heap) =>
 ∃ (n5 : Int),
 v3 = .int .i64 n5 ∧
 br (n5 == (0 : Int))
 (∃ (I6 : Int → Heap → Prop),
 ∃ (I7 : Int → Heap → Nat),
 I6 (0 : Int) h4 ∧
 ∀ (n8 : Int) (h9 : Heap),
 I6 n8 h9 →
 br (decide (n8 < (↑n : Int)))
 (∃ (p10 : Addr),
 (A = some p10 ∧ (0 : Int) ≤ n8 ∧ n8 < (↑n : Int)) ∧
 ∃ (s11 : ByteArray),
 ∃ (s12 : ByteArray),
 ∃ (b13 : Bool),
 Reads Tryz.prog (Instr.loadAt 42 (.pointer (some (p10.add (n8.toNat * 3))))) h9
 (.agg (Array.mk [.string s11, .string s12, .bool b13])) ∧
 SVC Tryz.prog
 (Instr.storeAt 42 (.pointer (some (Addr.mk (Array.size h9) 0 none)))
 (.agg (Array.mk [.string s11, .string s12, .bool b13])))
 (Array.push h9
 (Obj.cells (Array.mk [.string (ByteArray.mk (Array.mk [])), .string (ByteArray.mk (Array.mk [])), .bool false]) 42))
 fun (x14 : Unit) (h15 : Heap) =>
 ∃ (b16 : Bool),
 Reads Tryz.prog (Instr.loadAt 4 (.pointer (some ((Addr.mk (Array.size h9) 0 none).add 2)))) h15 (.bool b16) ∧
 br b16
 (SVC Tryz.prog
 (Instr.storeAt 9 (.pointer (some ((Addr.mk (Array.size h9) 0 none).add 1)))
 (.string (ByteArray.mk (Array.mk []))))
 h15 fun (x17 : Unit) (h18 : Heap) =>
 ∃ (s19 : ByteArray),
 Reads Tryz.prog (Instr.loadAt 9 (.pointer (some (Addr.mk (Array.size h9) 0 none)))) h18 (.string s19) ∧
 ∃ (s20 : ByteArray),
 Reads Tryz.prog (Instr.loadAt 9 (.pointer (some ((Addr.mk (Array.size h9) 0 none).add 1)))) h18
 (.string s20) ∧
 ∃ (b21 : Bool),
 Reads Tryz.prog (Instr.loadAt 4 (.pointer (some ((Addr.mk (Array.size h9) 0 none).add 2)))) h18
 (.bool b21) ∧
 HC Tryz.prog 59
 (Array.mk [.pointer (some (Addr.mk c 0 none)), .string s19, .string s20, .bool !b21]) h18
 fun (v22 : Value) (h23 : Heap) =>
 v22 = .tuple (Array.mk []) ∧
 I6 (IntKind.i64.wrap (n8 + (1 : Int))) h23 ∧ I7 (IntKind.i64.wrap (n8 + (1 : Int))) h23 < I7 n8 h9)
 (∃ (s24 : ByteArray),
 Reads Tryz.prog (Instr.loadAt 9 (.pointer (some (Addr.mk (Array.size h9) 0 none)))) h15 (.string s24) ∧
 ∃ (s25 : ByteArray),
 Reads Tryz.prog (Instr.loadAt 9 (.pointer (some ((Addr.mk (Array.size h9) 0 none).add 1)))) h15
 (.string s25) ∧
 ∃ (b26 : Bool),
 Reads Tryz.prog (Instr.loadAt 4 (.pointer (some ((Addr.mk (Array.size h9) 0 none).add 2)))) h15
 (.bool b26) ∧
 HC Tryz.prog 59
 (Array.mk [.pointer (some (Addr.mk c 0 none)), .string s24, .string s25, .bool !b26]) h15
 fun (v27 : Value) (h28 : Heap) =>
 v27 = .tuple (Array.mk []) ∧
 I6 (IntKind.i64.wrap (n8 + (1 : Int))) h28 ∧ I7 (IntKind.i64.wrap (n8 + (1 : Int))) h28 < I7 n8 h9))
 (R (.int .i64 n5) h9))
 (R (.int .i64 n5) h4))) := by kernel_rfl

theorem vcCHits (c : Nat) (h : Heap) (R : Value → Heap → Prop) :
    vcF Tryz.prog Tryz.f53 9 [] [] [.pointer (some ⟨c, 0, none⟩)] h R =
(∃ (b0 : Bool),
 Reads Tryz.prog (eqSem BinOp.eql 59 (Operand.tmp 3) (Operand.const (.pointer none)) (.pointer (some (Addr.mk c 0 none))) (.pointer none)) h (.bool b0) ∧
 br b0 (R (.int .i64 (0 : Int)) h)
 (∃ (p1 : Addr),
 some (Addr.mk c 0 none) = some p1 ∧
 ∃ (n2 : Int), Reads Tryz.prog (Instr.loadAt 3 (.pointer (some (p1.add 8)))) h (.int .i64 n2) ∧ R (.int .i64 n2) h)) := by kernel_rfl

theorem vcCSize (c : Nat) (h : Heap) (R : Value → Heap → Prop) :
    vcF Tryz.prog Tryz.f54 10 [] [] [.pointer (some ⟨c, 0, none⟩)] h R =
(∃ (b0 : Bool),
 Reads Tryz.prog (eqSem BinOp.eql 59 (Operand.tmp 3) (Operand.const (.pointer none)) (.pointer (some (Addr.mk c 0 none))) (.pointer none)) h (.bool b0) ∧
 br b0 (R (.int .i64 (0 : Int)) h)
 (∃ (p1 : Addr),
 some (Addr.mk c 0 none) = some p1 ∧
 ∃ (a2 : Option Nat),
 Reads Tryz.prog (Instr.loadAt 115 (.pointer (some (p1.add 2)))) h (.map a2) ∧
 ∃ (n3 : Int), Reads Tryz.prog (Builtin.len_ (Array.mk [115]) 3 (Array.mk [.map a2])) h (.int .i64 n3) ∧ R (.int .i64 n3) h)) := by kernel_rfl

theorem vcCDrop (c : Nat) (n : Int) (h : Heap) (R : Value → Heap → Prop) :
    vcF Tryz.prog Tryz.f29 36 [] [] [.pointer (some ⟨c, 0, none⟩), .int .i64 n] h R =
(∃ (I0 : Int → Heap → Prop),
 ∃ (I1 : Int → Heap → Nat),
 I0 n h ∧
 ∀ (n2 : Int) (h3 : Heap),
 I0 n2 h3 →
 ∃ (b4 : Bool),
 Reads Tryz.prog (eqSem BinOp.neq 59 (Operand.tmp 5) (Operand.const (.pointer none)) (.pointer (some (Addr.mk c 0 none))) (.pointer none)) h3
 (.bool b4) ∧
 ∃ (p5 : Addr),
 ((b4 && decide (n2 > (0 : Int))) = true → some (Addr.mk c 0 none) = some p5) ∧
 ∃ (a6 : Option Nat),
 ((b4 && decide (n2 > (0 : Int))) = true → Reads Tryz.prog (Instr.loadAt 115 (.pointer (some (p5.add 2)))) h3 (.map a6)) ∧
 ∃ (n7 : Int),
 ((b4 && decide (n2 > (0 : Int))) = true → Reads Tryz.prog (Builtin.len_ (Array.mk [115]) 3 (Array.mk [.map a6])) h3 (.int .i64 n7)) ∧
 br (b4 && decide (n2 > (0 : Int)) && decide (n7 > (0 : Int)))
 (∃ (p8 : Addr),
 some (Addr.mk c 0 none) = some p8 ∧
 ∃ (a9 : Option Addr),
 Reads Tryz.prog (Instr.loadAt 116 (.pointer (some ((p8.add 3).add 3)))) h3 (.pointer a9) ∧
 HC Tryz.prog 56 (Array.mk [.pointer a9]) h3 fun (v10 : Value) (h11 : Heap) =>
 v10 = .tuple (Array.mk []) ∧
 ∃ (p12 : Addr),
 some (Addr.mk c 0 none) = some p12 ∧
 ∃ (a13 : Option Nat),
 Reads Tryz.prog (Instr.loadAt 115 (.pointer (some (p12.add 2)))) h11 (.map a13) ∧
 ∃ (p14 : Addr),
 a9 = some p14 ∧
 ∃ (s15 : ByteArray),
 Reads Tryz.prog (Instr.loadAt 9 (.pointer (some p14))) h11 (.string s15) ∧
 SVC Tryz.prog (Builtin.delete_ (Array.mk [115, 9]) 0 (Array.mk [.map a13, .string s15])) h11
 fun (v16 : Value) (h17 : Heap) =>
 v16 = .tuple (Array.mk []) ∧ I0 (IntKind.i64.wrap (n2 - (1 : Int))) h17 ∧ I1 (IntKind.i64.wrap (n2 - (1 : Int))) h17 < I1 n2 h3)
 (R (.tuple (Array.mk [])) h3)) := by kernel_rfl

theorem vcCScan (c : Nat) (k : ByteArray) (n : Int) (h : Heap) (R : Value → Heap → Prop) :
    vcF Tryz.prog Tryz.f30 19 [] [] [.pointer (some ⟨c, 0, none⟩), .string k, .int .i64 n] h R =
(∃ (b0 : Bool),
 Reads Tryz.prog (eqSem BinOp.eql 59 (Operand.tmp 8) (Operand.const (.pointer none)) (.pointer (some (Addr.mk c 0 none))) (.pointer none)) h (.bool b0) ∧
 br b0 (R (.tuple (Array.mk [.slice none 0 0, .int .i64 (2 : Int)])) h)
 (∃ (p1 : Addr),
 some (Addr.mk c 0 none) = some p1 ∧
 ∃ (a2 : Option Addr),
 Reads Tryz.prog (Instr.loadAt 56 (.pointer (some p1))) h (.pointer a2) ∧
 HC Tryz.prog 61 (Array.mk [.pointer a2, .string k, .int .i64 n]) h fun (v3 : Value) (h4 : Heap) =>
 ∃ (a5 : Option Addr),
 ∃ (k6 : Nat),
 ∃ (k7 : Nat),
 ∃ (n8 : Int), v3 = .tuple (Array.mk [.slice a5 k6 k7, .int .i64 n8]) ∧ R (.tuple (Array.mk [.slice a5 k6 k7, .int .i64 n8])) h4)) := by kernel_rfl

theorem vcCOut (e : Nat) (h : Heap) (R : Value → Heap → Prop) :
    vcF Tryz.prog Tryz.f56 22 [] [] [.pointer (some ⟨e, 0, none⟩)] h R =
(∃ (p0 : Addr),
 some (Addr.mk e 0 none) = some p0 ∧
 ∃ (a1 : Option Addr),
 Reads Tryz.prog (Instr.loadAt 116 (.pointer (some (p0.add 3)))) h (.pointer a1) ∧
 ∃ (p2 : Addr),
 some (Addr.mk e 0 none) = some p2 ∧
 ∃ (a3 : Option Addr),
 Reads Tryz.prog (Instr.loadAt 116 (.pointer (some (p2.add 4)))) h (.pointer a3) ∧
 ∃ (p4 : Addr),
 some (Addr.mk e 0 none) = some p4 ∧
 ∃ (a5 : Option Addr),
 Reads Tryz.prog (Instr.loadAt 116 (.pointer (some (p4.add 4)))) h (.pointer a5) ∧
 ∃ (p6 : Addr),
 some (Addr.mk e 0 none) = some p6 ∧
 ∃ (a7 : Option Addr),
 Reads Tryz.prog (Instr.loadAt 116 (.pointer (some (p6.add 3)))) h (.pointer a7) ∧
 ∃ (p8 : Addr),
 a1 = some p8 ∧
 SVC Tryz.prog (Instr.storeAt 116 (.pointer (some (p8.add 4))) (.pointer a5)) h fun (x9 : Unit) (h10 : Heap) =>
 ∃ (p11 : Addr),
 a3 = some p11 ∧
 SVC Tryz.prog (Instr.storeAt 116 (.pointer (some (p11.add 3))) (.pointer a7)) h10 fun (x12 : Unit) (h13 : Heap) =>
 R (.tuple (Array.mk [])) h13) := by kernel_rfl

theorem vcCIn (c e : Nat) (h : Heap) (R : Value → Heap → Prop) :
    vcF Tryz.prog Tryz.f57 30 [] [] [.pointer (some ⟨c, 0, none⟩), .pointer (some ⟨e, 0, none⟩)] h R =
(∃ (p0 : Addr),
 some (Addr.mk c 0 none) = some p0 ∧
 ∃ (a1 : Option Addr),
 Reads Tryz.prog (Instr.loadAt 116 (.pointer (some ((p0.add 3).add 4)))) h (.pointer a1) ∧
 ∃ (p2 : Addr),
 some (Addr.mk c 0 none) = some p2 ∧
 ∃ (p3 : Addr),
 some (Addr.mk e 0 none) = some p3 ∧
 SVC Tryz.prog (Instr.storeAt 116 (.pointer (some (p3.add 4))) (.pointer a1)) h fun (x4 : Unit) (h5 : Heap) =>
 ∃ (p6 : Addr),
 some (Addr.mk e 0 none) = some p6 ∧
 SVC Tryz.prog (Instr.storeAt 116 (.pointer (some (p6.add 3))) (.pointer (some (p2.add 3)))) h5 fun (x7 : Unit) (h8 : Heap) =>
 ∃ (p9 : Addr),
 some (Addr.mk e 0 none) = some p9 ∧
 ∃ (a10 : Option Addr),
 Reads Tryz.prog (Instr.loadAt 116 (.pointer (some (p9.add 4)))) h8 (.pointer a10) ∧
 ∃ (p11 : Addr),
 a10 = some p11 ∧
 SVC Tryz.prog (Instr.storeAt 116 (.pointer (some (p11.add 3))) (.pointer (some (Addr.mk e 0 none)))) h8
 fun (x12 : Unit) (h13 : Heap) =>
 ∃ (p14 : Addr),
 some (Addr.mk c 0 none) = some p14 ∧
 SVC Tryz.prog (Instr.storeAt 116 (.pointer (some ((p14.add 3).add 4))) (.pointer (some (Addr.mk e 0 none)))) h13
 fun (x15 : Unit) (h16 : Heap) => R (.tuple (Array.mk [])) h16) := by kernel_rfl

theorem vcCKeep (c : Nat) (k v : ByteArray) (b : Bool) (h : Heap) (R : Value → Heap → Prop) :
    vcF Tryz.prog Tryz.f59 70 [] [] [.pointer (some ⟨c, 0, none⟩), .string k, .string v, .bool b] h R =
(∃ (p0 : Addr),
 some (Addr.mk c 0 none) = some p0 ∧
 ∃ (a1 : Option Nat),
 Reads Tryz.prog (Instr.loadAt 115 (.pointer (some (p0.add 2)))) h (.map a1) ∧
 ∃ (a2 : Option Addr),
 Reads Tryz.prog (Instr.lookup 115 (.map a1) (.string k) false) h (.pointer a2) ∧
 ∃ (b3 : Bool),
 Reads Tryz.prog (eqSem BinOp.eql 116 (Operand.tmp 16) (Operand.const (.pointer none)) (.pointer a2) (.pointer none)) h (.bool b3) ∧
 br b3
 (∃ (p4 : Addr),
 some (Addr.mk c 0 none) = some p4 ∧
 ∃ (n5 : Int),
 Reads Tryz.prog (Instr.loadAt 3 (.pointer (some (p4.add 1)))) h (.int .i64 n5) ∧
 br (n5 == (0 : Int)) (R (.tuple (Array.mk [])) h)
 (∃ (p6 : Addr),
 some (Addr.mk c 0 none) = some p6 ∧
 ∃ (a7 : Option Nat),
 Reads Tryz.prog (Instr.loadAt 115 (.pointer (some (p6.add 2)))) h (.map a7) ∧
 ∃ (n8 : Int),
 Reads Tryz.prog (Builtin.len_ (Array.mk [115]) 3 (Array.mk [.map a7])) h (.int .i64 n8) ∧
 ∃ (p9 : Addr),
 some (Addr.mk c 0 none) = some p9 ∧
 ∃ (n10 : Int),
 Reads Tryz.prog (Instr.loadAt 3 (.pointer (some (p9.add 1)))) h (.int .i64 n10) ∧
 br (n8 == n10)
 (∃ (p11 : Addr),
 some (Addr.mk c 0 none) = some p11 ∧
 ∃ (a12 : Option Addr),
 Reads Tryz.prog (Instr.loadAt 116 (.pointer (some ((p11.add 3).add 3)))) h (.pointer a12) ∧
 HC Tryz.prog 56 (Array.mk [.pointer a12]) h fun (v13 : Value) (h14 : Heap) =>
 v13 = .tuple (Array.mk []) ∧
 ∃ (p15 : Addr),
 some (Addr.mk c 0 none) = some p15 ∧
 ∃ (a16 : Option Nat),
 Reads Tryz.prog (Instr.loadAt 115 (.pointer (some (p15.add 2)))) h14 (.map a16) ∧
 ∃ (p17 : Addr),
 a12 = some p17 ∧
 ∃ (s18 : ByteArray),
 Reads Tryz.prog (Instr.loadAt 9 (.pointer (some p17))) h14 (.string s18) ∧
 SVC Tryz.prog (Builtin.delete_ (Array.mk [115, 9]) 0 (Array.mk [.map a16, .string s18]))
 h14 fun (v19 : Value) (h20 : Heap) =>
 v19 = .tuple (Array.mk []) ∧
 ∃ (p21 : Addr),
 some (Addr.mk c 0 none) = some p21 ∧
 ∃ (a22 : Option Nat),
 Reads Tryz.prog (Instr.loadAt 115 (.pointer (some (p21.add 2))))
 (Array.push h20
 (Obj.cells
 (Array.mk
 [.string k, .string (ByteArray.mk (Array.mk [])), .bool false, .pointer none,
 .pointer none])
 118))
 (.map a22) ∧
 SVC Tryz.prog
 (Instr.mapUpdate 115 (.map a22) (.string k)
 (.pointer (some (Addr.mk (Array.size h20) 0 none))))
 (Array.push h20
 (Obj.cells
 (Array.mk
 [.string k, .string (ByteArray.mk (Array.mk [])), .bool false, .pointer none,
 .pointer none])
 118))
 fun (x23 : Unit) (h24 : Heap) =>
 ∃ (p25 : Addr),
 some (Addr.mk (Array.size h20) 0 none) = some p25 ∧
 SVC Tryz.prog (Instr.storeAt 9 (.pointer (some (p25.add 1))) (.string v)) h24
 fun (x26 : Unit) (h27 : Heap) =>
 ∃ (p28 : Addr),
 some (Addr.mk (Array.size h20) 0 none) = some p28 ∧
 SVC Tryz.prog (Instr.storeAt 4 (.pointer (some (p28.add 2))) (.bool b))
 h27 fun (x29 : Unit) (h30 : Heap) =>
 HC Tryz.prog 57
 (Array.mk
 [.pointer (some (Addr.mk c 0 none)),
 .pointer (some (Addr.mk (Array.size h20) 0 none))])
 h30 fun (v31 : Value) (h32 : Heap) =>
 v31 = .tuple (Array.mk []) ∧ R (.tuple (Array.mk [])) h32)
 (∃ (p33 : Addr),
 some (Addr.mk c 0 none) = some p33 ∧
 ∃ (a34 : Option Nat),
 Reads Tryz.prog (Instr.loadAt 115 (.pointer (some (p33.add 2))))
 (Array.push h
 (Obj.cells
 (Array.mk [.string k, .string (ByteArray.mk (Array.mk [])), .bool false, .pointer none, .pointer none])
 118))
 (.map a34) ∧
 SVC Tryz.prog (Instr.mapUpdate 115 (.map a34) (.string k) (.pointer (some (Addr.mk (Array.size h) 0 none))))
 (Array.push h
 (Obj.cells
 (Array.mk [.string k, .string (ByteArray.mk (Array.mk [])), .bool false, .pointer none, .pointer none])
 118))
 fun (x35 : Unit) (h36 : Heap) =>
 ∃ (p37 : Addr),
 some (Addr.mk (Array.size h) 0 none) = some p37 ∧
 SVC Tryz.prog (Instr.storeAt 9 (.pointer (some (p37.add 1))) (.string v)) h36 fun (x38 : Unit) (h39 : Heap) =>
 ∃ (p40 : Addr),
 some (Addr.mk (Array.size h) 0 none) = some p40 ∧
 SVC Tryz.prog (Instr.storeAt 4 (.pointer (some (p40.add 2))) (.bool b)) h39
 fun (x41 : Unit) (h42 : Heap) =>
 HC Tryz.prog 57
 (Array.mk [.pointer (some (Addr.mk c 0 none)), .pointer (some (Addr.mk (Array.size h) 0 none))]) h42
 fun (v43 : Value) (h44 : Heap) => v43 = .tuple (Array.mk []) ∧ R (.tuple (Array.mk [])) h44)))
 (HC Tryz.prog 56 (Array.mk [.pointer a2]) h fun (v45 : Value) (h46 : Heap) =>
 v45 = .tuple (Array.mk []) ∧
 ∃ (p47 : Addr),
 a2 = some p47 ∧
 SVC Tryz.prog (Instr.storeAt 9 (.pointer (some (p47.add 1))) (.string v)) h46 fun (x48 : Unit) (h49 : Heap) =>
 ∃ (p50 : Addr),
 a2 = some p50 ∧
 SVC Tryz.prog (Instr.storeAt 4 (.pointer (some (p50.add 2))) (.bool b)) h49 fun (x51 : Unit) (h52 : Heap) =>
 HC Tryz.prog 57 (Array.mk [.pointer (some (Addr.mk c 0 none)), .pointer a2]) h52 fun (v53 : Value) (h54 : Heap) =>
 v53 = .tuple (Array.mk []) ∧ R (.tuple (Array.mk [])) h54)) := by kernel_rfl
end Go.Proofs.YtkhinnchplahlaaGreatDoor
end

section
set_option maxRecDepth 100000
namespace Go.Proofs.YtkhinnchplahlaaGreatDoor
open Go Go.Vc Go.Proofs Go.Dk Go.Kv

theorem kEp : scT Tryz.prog 116 = true := by kernel_rfl
theorem zEp : szOf Tryz.prog 116 = some 1 := by kernel_rfl
abbrev entBox (e : En) (pn pe : Option Addr) : Obj := .cells #[.string e.key, .string e.val, .bool e.is, .pointer pn, .pointer pe] 118 (0, 0)
structure Cd where
  s : Nat
  most : Nat
  r : Nat
  hits : Int
abbrev caBox (d : Cd) (pn pe : Option Addr) : Obj := .cells #[.pointer (some ⟨d.s, 0, none⟩), .int .i64 d.most, .map (some d.r), .string ⟨#[]⟩, .string ⟨#[]⟩, .bool false, .pointer pn, .pointer pe, .int .i64 d.hits] 120 (0, 0)
abbrev endA (c : Nat) : Addr := ⟨c, 3, none⟩
abbrev ad (b : Nat) : Addr := ⟨b, 0, none⟩
def nodeB (c : Nat) (x : Addr) : Bool := x.spot.isNone && (if x.block = c then decide (x.off = 3) else decide (x.off = 0))
theorem node_inj {c : Nat} {x y : Addr} (hx : nodeB c x = true) (hy : nodeB c y = true) (e : x.block = y.block) : x = y := by
  obtain ⟨a, b, s⟩ := x
  obtain ⟨a', b', s'⟩ := y
  simp only [nodeB, Bool.and_eq_true, Option.isNone_iff_eq_none] at hx hy
  dsimp only at e
  subst e
  obtain ⟨rfl, h1⟩ := hx
  obtain ⟨rfl, h2⟩ := hy
  split at h1 <;> rename_i hc
  · rw [if_pos hc] at h2; rw [of_decide_eq_true h1, of_decide_eq_true h2]
  · rw [if_neg hc] at h2; rw [of_decide_eq_true h1, of_decide_eq_true h2]
def nwf (c : Nat) (h : Heap) (x : Addr) : Option Value := if nodeB c x then cell h (x.add 3) else none
def elf (c : Nat) (h : Heap) (x : Addr) : Option Value := if nodeB c x then cell h (x.add 4) else none
structure Shp (h : Heap) (c : Nat) (d : Cd) (L : List (Nat × En)) : Prop where
  ca : ∃ pn pe, h[c]? = some (caBox d pn pe)
  en : ∀ p ∈ L, ∃ pn pe, h[p.1]? = some (entBox p.2 pn pe)
  cl : c ∉ L.map (·.1)
  nd : (L.map (·.1)).Nodup
def At_ (c : Nat) (L : List (Nat × En)) (a : Addr) : Prop := a = endA c ∨ ∃ p ∈ L, a = ad p.1
section
variable {h : Heap} {c : Nat} {d : Cd} {L : List (Nat × En)} {a : Addr}
theorem node_end (c : Nat) : nodeB c (endA c) = true := by simp [nodeB]
theorem node_ad {b : Nat} (hb : b ≠ c) : nodeB c (ad b) = true := by simp [nodeB, hb]
theorem Shp.ne (hs : Shp h c d L) {p : Nat × En} (hp : p ∈ L) : p.1 ≠ c := fun e => hs.cl (e ▸ List.mem_map_of_mem hp)
theorem Shp.node (hs : Shp h c d L) (ha : At_ c L a) : nodeB c a = true := by
  rcases ha with rfl | ⟨p, hp, rfl⟩
  · exact node_end c
  · exact node_ad (hs.ne hp)
theorem Shp.obj (hs : Shp h c d L) (ha : At_ c L a) : ∃ cs T, h[a.block]? = some (.cells cs T (0, 0)) ∧ a.off + 4 < cs.size ∧ a.spot = none := by
  rcases ha with rfl | ⟨p, hp, rfl⟩
  · obtain ⟨pn, pe, hb⟩ := hs.ca; exact ⟨_, _, hb, by simp, rfl⟩
  · obtain ⟨pn, pe, hb⟩ := hs.en p hp; exact ⟨_, _, hb, by simp, rfl⟩
theorem Shp.store (hs : Shp h c d L) (ha : At_ c L a) {i : Nat} (hi : i = 3 ∨ i = 4) {v : Option Addr} {K : Unit → Heap → Prop}
    (k : ∀ h', Shp h' c d L → (∀ x, nwf c h' x = if x = a ∧ i = 3 then some (.pointer v) else nwf c h x) → (∀ x, elf c h' x = if x = a ∧ i = 4 then some (.pointer v) else elf c h x) → Upd (fun q => q = a.block) h h' → K () h') :
    SVC Tryz.prog (Instr.storeAt 116 (.pointer (some (a.add i))) (.pointer v)) h K := by
  obtain ⟨cs, T, hb, hlt, hsp⟩ := hs.obj ha
  have hna := hs.node ha
  obtain ⟨ab, ao, sp⟩ := a
  dsimp only at hb hlt hsp
  subst hsp
  rw [Addr.add_row]
  refine svc_store_cell zEp hb (by omega) rfl (one_pointer _) fun h' z' b' o' => ?_
  have uu : Upd (fun q => q = ab) h h' := upd_of_one z' o'
  have hcell : ∀ (x : Addr) (j : Nat), nodeB c x = true → (j = 3 ∨ j = 4) → cell h' (x.add j) = if x = ⟨ab, ao, none⟩ ∧ i = j then some (.pointer v) else cell h (x.add j) := fun x j hx hj => by
    by_cases hxa : x = ⟨ab, ao, none⟩
    · subst hxa
      rw [Addr.add_row, cell_at b', cell_at hb]
      by_cases hij : i = j
      · subst hij
        rw [if_pos ⟨rfl, rfl⟩]
        have hlt2 : ao + i < cs.toList.length := by rw [Array.length_toList]; omega
        show (cs.toList.set (ao + i) (Value.pointer v)).toArray[ao + i]? = _
        rw [← Array.getElem?_toList, List.getElem?_set, if_pos rfl, if_pos hlt2]
      · rw [if_neg fun h => hij h.2]
        rw [← Array.getElem?_toList, List.getElem?_set, if_neg (by omega), Array.getElem?_toList]
    · rw [if_neg fun h => hxa h.1]
      have hbk : x.block ≠ ab := fun e => hxa (node_inj hx hna e)
      refine cell_congr ?_
      rw [Addr.add_block]
      exact o' _ hbk
  refine k h' ⟨?_, fun p hp => ?_, hs.cl, hs.nd⟩ (fun x => ?_) (fun x => ?_) uu
  · obtain ⟨pn, pe, hc⟩ := hs.ca
    by_cases e : c = ab
    · subst e
      have ho : ao = 3 := by simpa [nodeB] using hna
      subst ho
      rw [hc] at hb
      cases hb
      rcases hi with rfl | rfl
      · exact ⟨v, pe, by rw [b']; rfl⟩
      · exact ⟨pn, v, by rw [b']; rfl⟩
    · exact ⟨pn, pe, (o' c e).trans hc⟩
  · obtain ⟨pn, pe, hc⟩ := hs.en p hp
    by_cases e : p.1 = ab
    · subst e
      have ho : ao = 0 := by simpa [nodeB, hs.ne hp] using hna
      subst ho
      rw [hc] at hb
      cases hb
      rcases hi with rfl | rfl
      · exact ⟨v, pe, by rw [b']; rfl⟩
      · exact ⟨pn, v, by rw [b']; rfl⟩
    · exact ⟨pn, pe, (o' _ e).trans hc⟩
  · unfold nwf
    cases hx : nodeB c x with
    | true => simp only [if_true]; exact hcell x 3 hx (.inl rfl)
    | false =>
      have : ¬ (x = ⟨ab, ao, none⟩ ∧ i = 3) := fun h => by rw [h.1, hna] at hx; cases hx
      rw [if_neg this]; rfl
  · unfold elf
    cases hx : nodeB c x with
    | true => simp only [if_true]; exact hcell x 4 hx (.inr rfl)
    | false =>
      have : ¬ (x = ⟨ab, ao, none⟩ ∧ i = 4) := fun h => by rw [h.1, hna] at hx; cases hx
      rw [if_neg this]; rfl
theorem nwf_rd {x : Addr} (hf : nwf c h a = Ptr x) : Reads Tryz.prog (Instr.loadAt 116 (.pointer (some (a.add 3)))) h (.pointer (some x)) := by
  unfold nwf at hf
  split at hf
  · exact reads_load kEp hf
  · cases hf
theorem elf_rd {x : Addr} (hf : elf c h a = Ptr x) : Reads Tryz.prog (Instr.loadAt 116 (.pointer (some (a.add 4)))) h (.pointer (some x)) := by
  unfold elf at hf
  split at hf
  · exact reads_load kEp hf
  · cases hf
structure Ring (h : Heap) (c : Nat) (d : Cd) (L : List (Nat × En)) : Prop where
  shp : Shp h c d L
  ch : Ch (nwf c h) (elf c h) (endA c) (L.map fun p => ad p.1) (endA c)
theorem Shp.nodes (hs : Shp h c d L) : (endA c :: L.map fun p => ad p.1).Nodup := by
  refine List.nodup_cons.2 ⟨fun hm => ?_, ?_⟩
  · obtain ⟨p, hp, e⟩ := List.mem_map.1 hm
    exact hs.ne hp (congrArg Addr.block e)
  · have : (L.map fun p => ad p.1) = (L.map (·.1)).map ad := by rw [List.map_map]; rfl
    rw [this]
    exact List.Pairwise.map ad (fun a b hab e => hab (congrArg Addr.block e)) hs.nd
theorem at_last : ∀ (X : List (Nat × En)) (L : List (Nat × En)), (∀ p ∈ X, p ∈ L) → At_ c L (lastA (endA c) (X.map fun p => ad p.1))
  | X, L, h => by
    rcases List.mem_cons.1 (lastA_mem (X.map fun p => ad p.1) (endA c)) with e | e
    · exact .inl e
    · obtain ⟨p, hp, e⟩ := List.mem_map.1 e
      exact .inr ⟨p, h p hp, e.symm⟩
theorem at_head (Y L : List (Nat × En)) (h : ∀ p ∈ Y, p ∈ L) : At_ c L ((Y.map fun p => ad p.1).headD (endA c)) := by
  cases Y with
  | nil => exact .inl rfl
  | cons p Y => exact .inr ⟨p, h p List.mem_cons_self, rfl⟩
theorem Shp.sub (hs : Shp h c d L) {L' : List (Nat × En)} (hl : L'.Sublist L) : Shp h c d L' :=
  ⟨hs.ca, fun p hp => hs.en p (hl.subset hp), fun hm => hs.cl ((hl.map _).subset hm), (hl.map _).nodup hs.nd⟩
theorem out_spec {X Y : List (Nat × En)} {b : Nat} {e : En} (hr : Ring h c d (X ++ (b, e) :: Y)) :
    HC Tryz.prog 56 #[.pointer (some ⟨b, 0, none⟩)] h fun v h' => v = .tuple #[] ∧ Ring h' c d (X ++ Y) ∧ Shp h' c d (X ++ (b, e) :: Y) ∧ Upd (fun q => q = c ∨ q ∈ (X ++ (b, e) :: Y).map (·.1)) h h' := by
  have hs := hr.shp
  have hch := hr.ch
  rw [List.map_append, List.map_cons] at hch
  obtain ⟨c1, c2⟩ := (Ch.app _).1 hch
  have fel := c1.back
  have fnw := c2.fore
  have hnod := hs.nodes
  rw [List.map_append, List.map_cons] at hnod
  have aP := at_last (c := c) X (X ++ (b, e) :: Y) fun p hp => List.mem_append_left _ hp
  have aN := at_head (c := c) Y (X ++ (b, e) :: Y) fun p hp => List.mem_append_right _ (List.mem_cons_of_mem _ hp)
  refine HC_of_vc (args := [.pointer (some ⟨b, 0, none⟩)]) (base := 22) (cuts := []) (bigs := []) kM Tryz.func56 ?_
  rw [vcCOut]
  refine ⟨_, rfl, _, nwf_rd fnw, _, rfl, _, elf_rd fel, _, rfl, _, elf_rd fel, _, rfl, _, nwf_rd fnw, _, rfl, hs.store aN (.inr rfl) fun h10 s10 n10 e10 u10 => ⟨_, rfl, s10.store aP (.inl rfl) fun h13 s13 n13 e13 u13 => ?_⟩⟩
  have inS : ∀ {x : Addr}, At_ c (X ++ (b, e) :: Y) x → ∀ q, q = x.block → q = c ∨ q ∈ (X ++ (b, e) :: Y).map (·.1) := fun hx q hq => by
    rcases hx with rfl | ⟨p, hp, rfl⟩
    · exact .inl hq
    · exact .inr (hq ▸ List.mem_map_of_mem hp)
  refine ⟨rfl, ⟨s13.sub (List.Sublist.append (List.Sublist.refl _) (List.sublist_cons_self _ _)), ?_⟩, s13, (u10.mono (inS aN)).trans (u13.mono (inS aP))⟩
  rw [List.map_append]
  refine hch.out hnod rfl ?_ ?_ (fun x hx => ?_) fun x hx => ?_
  · rw [n13, if_pos ⟨rfl, rfl⟩]
  · rw [e13, if_neg (fun h => by simp at h), e10, if_pos ⟨rfl, rfl⟩]
  · rw [n13, if_neg (fun h => hx h.1), n10, if_neg (fun h => by simp at h)]
  · rw [e13, if_neg (fun h => by simp at h), e10, if_neg (fun h => hx h.1)]
theorem in_spec {b : Nat} {e : En} (hr : Ring h c d L) (hs : Shp h c d (L ++ [(b, e)])) :
    HC Tryz.prog 57 #[.pointer (some ⟨c, 0, none⟩), .pointer (some ⟨b, 0, none⟩)] h fun v h' => v = .tuple #[] ∧ Ring h' c d (L ++ [(b, e)]) ∧ Upd (fun q => q = c ∨ q ∈ (L ++ [(b, e)]).map (·.1)) h h' := by
  have fel := hr.ch.back
  have hnod := hr.shp.nodes
  have hnod2 := hs.nodes
  rw [List.map_append] at hnod2
  have aP := at_last (c := c) L (L ++ [(b, e)]) fun p hp => List.mem_append_left _ hp
  have aE : At_ c (L ++ [(b, e)]) (ad b) := .inr ⟨(b, e), by simp, rfl⟩
  have aC : At_ c (L ++ [(b, e)]) (endA c) := .inl rfl
  have heL : ad b ∉ L.map fun p => ad p.1 := fun hm => by
    have := (List.nodup_append.1 (List.nodup_cons.1 hnod2).2).2.2
    exact this _ hm _ List.mem_cons_self rfl
  have hec : ad b ≠ endA c := fun h => by cases h
  have hlast : lastA (endA c) (L.map fun p => ad p.1) ≠ ad b := fun h => by
    rcases List.mem_cons.1 (lastA_mem (L.map fun p => ad p.1) (endA c)) with h2 | h2
    · rw [h2] at h; cases h
    · rw [h] at h2; exact heL h2
  refine HC_of_vc (args := [.pointer (some ⟨c, 0, none⟩), .pointer (some ⟨b, 0, none⟩)]) (base := 30) (cuts := []) (bigs := []) kM Tryz.func57 ?_
  rw [vcCIn]
  have eC : (⟨c, 0, none⟩ : Addr).add 3 = endA c := Addr.add_row c 0 3
  refine ⟨_, rfl, _, by rw [eC]; exact elf_rd fel, _, rfl, _, rfl, hs.store aE (.inr rfl) fun h5 s5 n5 e5 u5 => ⟨_, rfl, ?_⟩⟩
  rw [eC]
  refine s5.store aE (.inl rfl) fun h8 s8 n8 e8 u8 => ⟨_, rfl, _, elf_rd (c := c) (x := lastA (endA c) (L.map fun p => ad p.1)) ?_, _, rfl, s8.store aP (.inl rfl) fun h13 s13 n13 e13 u13 => ⟨_, rfl, ?_⟩⟩
  · rw [e8, if_neg (fun h => by simp at h), e5, if_pos ⟨rfl, rfl⟩]
  rw [eC]
  refine s13.store aC (.inr rfl) fun h16 s16 n16 e16 u16 => ?_
  have inS : ∀ {x : Addr}, At_ c (L ++ [(b, e)]) x → ∀ q, q = x.block → q = c ∨ q ∈ (L ++ [(b, e)]).map (·.1) := fun hx q hq => by
    rcases hx with rfl | ⟨p, hp, rfl⟩
    · exact .inl hq
    · exact .inr (hq ▸ List.mem_map_of_mem hp)
  refine ⟨rfl, ⟨s16, ?_⟩, (((u5.mono (inS aE)).trans (u8.mono (inS aE))).trans (u13.mono (inS aP))).trans (u16.mono (inS aC))⟩
  rw [List.map_append]
  refine hr.ch.inn hnod hec heL ?_ ?_ ?_ ?_ (fun x h1 h2 => ?_) fun x h1 h2 => ?_
  · rw [n16, if_neg (fun h => by simp at h), n13, if_pos ⟨rfl, rfl⟩]
  · rw [e16, if_neg (fun h => hec h.1), e13, if_neg (fun h => by simp at h), e8, if_neg (fun h => by simp at h), e5, if_pos ⟨rfl, rfl⟩]
  · rw [n16, if_neg (fun h => by simp at h), n13, if_neg (fun h => hlast h.1.symm), n8, if_pos ⟨rfl, rfl⟩]
  · rw [e16, if_pos ⟨rfl, rfl⟩]
  · rw [n16, if_neg (fun h => by simp at h), n13, if_neg (fun h => h1 h.1), n8, if_neg (fun h => h2 h.1), n5, if_neg (fun h => by simp at h)]
  · rw [e16, if_neg (fun h => h2 h.1), e13, if_neg (fun h => by simp at h), e8, if_neg (fun h => by simp at h), e5, if_neg (fun h => h1 h.1)]
end
end Go.Proofs.YtkhinnchplahlaaGreatDoor
end

section
set_option maxRecDepth 100000
namespace Go.Proofs.YtkhinnchplahlaaGreatDoor
open Go Go.Vc Go.Proofs Go.Dk Go.Kv

noncomputable def Me := strMk Tryz.prog 115 9 116 Nat (fun b => Value.pointer (some ⟨b, 0, none⟩)) (by kernel_rfl) (by kernel_rfl)
theorem kMe : scT Tryz.prog 115 = true := by kernel_rfl
theorem kSp : scT Tryz.prog 56 = true := by kernel_rfl
theorem uEp : Tryz.prog.underlying 116 = some (.pointer (Tryz.prog.pointee 116)) := by kernel_rfl
theorem uCp : Tryz.prog.underlying 59 = some (.pointer (Tryz.prog.pointee 59)) := by kernel_rfl
theorem mput_len {κ ν : Type} [DecidableEq κ] : ∀ (m : List (κ × ν)) (k : κ) (v : ν), mGet m k = none → (mPut m k v).length = m.length + 1
  | [], k, v, _ => rfl
  | p :: m, k, v, h => by
    unfold mGet at h
    split at h
    · cases h
    · rename_i hp
      unfold mPut
      rw [if_neg hp, List.length_cons, mput_len m k v h, List.length_cons]
theorem mdel_len {κ ν : Type} [DecidableEq κ] : ∀ (m : List (κ × ν)) (k : κ) (v : ν), mGet m k = some v → (mDel m k).length + 1 = m.length
  | [], k, v, h => by cases h
  | p :: m, k, v, h => by
    unfold mGet at h
    unfold mDel
    split at h
    · rename_i hp; rw [if_pos hp]; rfl
    · rename_i hp; rw [if_neg hp, List.length_cons, List.length_cons, mdel_len m k v h]
structure Raw (h : Heap) (c : Nat) (d : Cd) (L : List (Nat × En)) (ml : List (Str × Nat)) : Prop where
  ring : Ring h c d L
  map : MapAt Me h d.r ml
  get : ∀ k b, mGet ml k = some b ↔ ∃ e, (b, e) ∈ L ∧ e.key = k
  len : ml.length = L.length
  kn : (L.map fun p => p.2.key).Nodup
  rc : d.r ≠ c
  rl : d.r ∉ L.map (·.1)
section
variable {h h' : Heap} {c : Nat} {d : Cd} {L : List (Nat × En)} {ml : List (Str × Nat)} {S : Nat → Prop}
theorem Shp.updM (hs : Shp h c d L) (u : UpdM S h h') (hc : ¬ S c) (hL : ∀ p ∈ L, ¬ S p.1) : Shp h' c d L := by
  refine ⟨?_, fun p hp => ?_, hs.cl, hs.nd⟩
  · obtain ⟨pn, pe, hb⟩ := hs.ca; exact ⟨pn, pe, u.cells hb hc⟩
  · obtain ⟨pn, pe, hb⟩ := hs.en p hp; exact ⟨pn, pe, u.cells hb (hL p hp)⟩
theorem Ring.updM (hr : Ring h c d L) (u : UpdM S h h') (hc : ¬ S c) (hL : ∀ p ∈ L, ¬ S p.1) : Ring h' c d L := by
  refine ⟨hr.shp.updM u hc hL, ?_⟩
  have hx : ∀ x, At_ c L x → nwf c h' x = nwf c h x ∧ elf c h' x = elf c h x := fun x hx => by
    obtain ⟨cs, T, hb, _, _⟩ := hr.shp.obj hx
    have hs : ¬ S x.block := by
      rcases hx with rfl | ⟨p, hp, rfl⟩
      · exact hc
      · exact hL p hp
    have hb' := u.cells hb hs
    have e : ∀ i, cell h' (x.add i) = cell h (x.add i) := fun i => cell_congr (by rw [Addr.add_block, hb', hb])
    unfold nwf elf
    rw [e, e]; exact ⟨rfl, rfl⟩
  have hmem : ∀ x ∈ L.map (fun p => ad p.1), At_ c L x := fun x hm => by
    obtain ⟨p, hp, e⟩ := List.mem_map.1 hm
    exact .inr ⟨p, hp, e.symm⟩
  refine Ch.congr _ hr.ch (fun x hm => ?_) (fun x hm => (hx x (hmem x hm)).2) (hx _ (.inl rfl)).2
  rcases List.mem_cons.1 hm with rfl | hm
  · exact (hx _ (.inl rfl)).1
  · exact (hx x (hmem x hm)).1
theorem Raw.updM (hr : Raw h c d L ml) (u : UpdM S h h') (hc : ¬ S c) (hrr : ¬ S d.r) (hL : ∀ p ∈ L, ¬ S p.1) : Raw h' c d L ml :=
  ⟨hr.ring.updM u hc hL, hr.map.updM u hrr, hr.get, hr.len, hr.kn, hr.rc, hr.rl⟩
theorem Shp.lt (hs : Shp h c d L) : c < h.size ∧ ∀ p ∈ L, p.1 < h.size := by
  refine ⟨?_, fun p hp => ?_⟩
  · obtain ⟨pn, pe, hb⟩ := hs.ca; exact at_lt hb
  · obtain ⟨pn, pe, hb⟩ := hs.en p hp; exact at_lt hb
theorem Raw.rm (hr : Raw h c d L ml) : Reads Tryz.prog (Instr.loadAt 115 (.pointer (some ((⟨c, 0, none⟩ : Addr).add 2)))) h (.map (some d.r)) := by
  obtain ⟨pn, pe, hb⟩ := hr.ring.shp.ca
  exact reads_load kMe (cell_cells hb rfl)
theorem Raw.rmost (hr : Raw h c d L ml) : Reads Tryz.prog (Instr.loadAt 3 (.pointer (some ((⟨c, 0, none⟩ : Addr).add 1)))) h (.int .i64 d.most) := by
  obtain ⟨pn, pe, hb⟩ := hr.ring.shp.ca
  exact reads_load kI (cell_cells hb rfl)
theorem Raw.rhits (hr : Raw h c d L ml) : Reads Tryz.prog (Instr.loadAt 3 (.pointer (some ((⟨c, 0, none⟩ : Addr).add 8)))) h (.int .i64 d.hits) := by
  obtain ⟨pn, pe, hb⟩ := hr.ring.shp.ca
  exact reads_load kI (cell_cells hb rfl)
theorem Raw.rs (hr : Raw h c d L ml) : Reads Tryz.prog (Instr.loadAt 56 (.pointer (some ⟨c, 0, none⟩))) h (.pointer (some ⟨d.s, 0, none⟩)) := by
  obtain ⟨pn, pe, hb⟩ := hr.ring.shp.ca
  exact reads_load kSp (cell_cells0 hb rfl)
theorem Raw.look (hr : Raw h c d L ml) (k : Str) : Reads Tryz.prog (Instr.lookup 115 (.map (some d.r)) (.string k) false) h (.pointer ((mGet ml k).map fun b => ⟨b, 0, none⟩)) := by
  have rd := (reads_lookup (M := Me) (k := k) (z := .pointer none) hr.map (by kernel_rfl)).1
  cases hg : mGet ml k with
  | none => rw [hg] at rd; exact rd
  | some b => rw [hg] at rd; exact rd
theorem Raw.miss (hr : Raw h c d L ml) {k : Str} (hg : mGet ml k = .none) : efind k (L.map (·.2)) = .none := by
  unfold efind
  rw [List.find?_eq_none]
  intro e he hk
  obtain ⟨p, hp, rfl⟩ := List.mem_map.1 he
  have := (hr.get k p.1).2 ⟨p.2, hp, of_decide_eq_true hk⟩
  rw [hg] at this; cases this
theorem Raw.hit (hr : Raw h c d L ml) {k : Str} {b : Nat} (hg : mGet ml k = .some b) : ∃ X Y e, L = X ++ (b, e) :: Y ∧ e.key = k ∧ efind k (L.map (·.2)) = .some e ∧ ecut k (L.map (·.2)) = (X ++ Y).map (·.2) := by
  obtain ⟨e, hm, hk⟩ := (hr.get k b).1 hg
  obtain ⟨X, Y, rfl⟩ := List.append_of_mem hm
  have kn := hr.kn
  rw [List.map_append, List.map_cons] at kn
  obtain ⟨n1, n2, n3⟩ := List.nodup_append.1 kn
  have hX : ∀ p ∈ X, p.2.key ≠ k := fun p hp h => n3 _ (List.mem_map_of_mem (f := fun p : Nat × En => p.2.key) hp) _ List.mem_cons_self (h.trans hk.symm)
  have hY : ∀ p ∈ Y, p.2.key ≠ k := fun p hp h => (List.nodup_cons.1 n2).1 (by
    have : e.key = p.2.key := hk.trans h.symm
    rw [this]; exact List.mem_map_of_mem (f := fun p : Nat × En => p.2.key) hp)
  refine ⟨X, Y, e, rfl, hk, ?_, ?_⟩
  · unfold efind
    rw [List.map_append, List.map_cons, List.find?_append]
    have : (X.map (·.2)).find? (fun e => decide (e.key = k)) = .none := by
      rw [List.find?_eq_none]
      intro x hx hd
      obtain ⟨p, hp, rfl⟩ := List.mem_map.1 hx
      exact hX p hp (of_decide_eq_true hd)
    rw [this]
    simp [hk]
  · unfold ecut
    rw [List.map_append, List.map_cons, List.filter_append, List.filter_cons]
    simp only [hk, ne_eq, not_true_eq_false, decide_false, Bool.false_eq_true, if_false]
    rw [List.map_append]
    congr 1
    · refine List.filter_eq_self.2 fun x hx => ?_
      obtain ⟨p, hp, rfl⟩ := List.mem_map.1 hx
      exact decide_eq_true (hX p hp)
    · refine List.filter_eq_self.2 fun x hx => ?_
      obtain ⟨p, hp, rfl⟩ := List.mem_map.1 hx
      exact decide_eq_true (hY p hp)
theorem svc_ent_val {b : Nat} {e : En} {v : Str} {pn pe : Option Addr} {K : Unit → Heap → Prop} (hb : h[b]? = .some (entBox e pn pe)) (k : ∀ h', h'.size = h.size → h'[b]? = .some (entBox { e with val := v } pn pe) → Upd (fun q => q = b) h h' → K () h') :
    SVC Tryz.prog (Instr.storeAt 9 (.pointer (.some ((⟨b, 0, .none⟩ : Addr).add 1))) (.string v)) h K :=
  svc_store_box (k := 1) zS hb (by simp) rfl (one_string _) fun h' z' b' u' => k h' z' (by rw [b']; rfl) u'
theorem svc_ent_is {b : Nat} {e : En} {v : Bool} {pn pe : Option Addr} {K : Unit → Heap → Prop} (hb : h[b]? = .some (entBox e pn pe)) (k : ∀ h', h'.size = h.size → h'[b]? = .some (entBox { e with is := v } pn pe) → Upd (fun q => q = b) h h' → K () h') :
    SVC Tryz.prog (Instr.storeAt 4 (.pointer (.some ((⟨b, 0, .none⟩ : Addr).add 2))) (.bool v)) h K :=
  svc_store_box (k := 2) zB hb (by simp) rfl (one_bool _) fun h' z' b' u' => k h' z' (by rw [b']; rfl) u'
theorem Shp.snoc (hr : Ring h c d L) {b : Nat} {e : En} {pn pe : Option Addr} (hb : h[b]? = .some (entBox e pn pe)) (hc : b ≠ c) (hL : b ∉ L.map (·.1)) : Shp h c d (L ++ [(b, e)]) := by
  have hs := hr.shp
  refine ⟨hs.ca, fun p hp => ?_, fun hm => ?_, ?_⟩
  · rcases List.mem_append.1 hp with hp | hp
    · exact hs.en p hp
    · obtain rfl := List.mem_singleton.1 hp; exact ⟨pn, pe, hb⟩
  · rw [List.map_append] at hm
    rcases List.mem_append.1 hm with hm | hm
    · exact hs.cl hm
    · exact hc (List.mem_singleton.1 hm).symm
  · rw [List.map_append]
    exact List.nodup_append.2 ⟨hs.nd, by simp, fun x hx y hy e2 => hL (by have hy2 : y = b := List.mem_singleton.1 hy; rw [← hy2, ← e2]; exact hx)⟩
theorem reput_spec {X Y : List (Nat × En)} {b : Nat} {e : En} {v : Str} {is : Bool} {K : Heap → Prop} (hr : Raw h c d (X ++ (b, e) :: Y) ml) {h2 : Heap} (hr2 : Ring h2 c d (X ++ Y)) (hb2 : ∃ pn pe, h2[b]? = .some (entBox ⟨e.key, v, is⟩ pn pe)) (hm2 : MapAt Me h2 d.r ml)
    (u2 : Upd (fun q => q = c ∨ q ∈ (X ++ (b, e) :: Y).map (·.1)) h h2)
    (k : ∀ h', Raw h' c d (X ++ Y ++ [(b, ⟨e.key, v, is⟩)]) ml → Upd (fun q => q = c ∨ q ∈ (X ++ (b, e) :: Y).map (·.1)) h h' → K h') :
    HC Tryz.prog 57 #[.pointer (.some ⟨c, 0, .none⟩), .pointer (.some ⟨b, 0, .none⟩)] h2 fun w h' => w = .tuple #[] ∧ K h' := by
  obtain ⟨pn, pe, hb⟩ := hb2
  have hs := hr.ring.shp
  have hbc : b ≠ c := hs.ne (p := (b, e)) (by simp)
  have hnd := hs.nd
  rw [List.map_append, List.map_cons] at hnd
  have hbL : b ∉ (X ++ Y).map (·.1) := fun hm => by
    rw [List.map_append] at hm
    obtain ⟨n1, n2, n3⟩ := List.nodup_append.1 hnd
    rcases List.mem_append.1 hm with hm | hm
    · exact n3 _ hm _ List.mem_cons_self rfl
    · exact (List.nodup_cons.1 n2).1 hm
  refine (in_spec hr2 (Shp.snoc hr2 (e := ⟨e.key, v, is⟩) hb hbc hbL)).mono ?_
  rintro w h' ⟨rfl, r', u'⟩
  have hperm : ∀ {α : Type} (x : α) (A B : List α), (A ++ B ++ [x]).Perm (A ++ x :: B) := fun x A B => by
    rw [List.append_assoc]; exact List.Perm.append_left A (List.perm_append_singleton x B)
  have hsub : ∀ q, (q = c ∨ q ∈ (X ++ Y ++ [(b, (⟨e.key, v, is⟩ : En))]).map (·.1)) → (q = c ∨ q ∈ (X ++ (b, e) :: Y).map (·.1)) := fun q hq => hq.imp id fun hq => by
    simp only [List.map_append, List.map_cons, List.map_nil, List.mem_append, List.mem_cons, List.not_mem_nil, or_false] at hq ⊢
    rcases hq with (hq | hq) | hq
    · exact .inl hq
    · exact .inr (.inr hq)
    · exact .inr (.inl hq)
  refine ⟨rfl, k h' ⟨r', hm2.upd u' fun hq => ?_, fun k' b' => ?_, ?_, ?_, hr.rc, fun hm => ?_⟩ (u2.trans (u'.mono hsub))⟩
  · rcases hsub _ hq with hq | hq
    · exact hr.rc hq
    · exact hr.rl hq
  · rw [hr.get]
    constructor
    · rintro ⟨e1, hm, hk⟩
      simp only [List.mem_append, List.mem_cons, List.not_mem_nil, or_false] at hm ⊢
      rcases hm with hm | hm | hm
      · exact ⟨e1, .inl (.inl hm), hk⟩
      · cases hm; exact ⟨_, .inr rfl, hk⟩
      · exact ⟨e1, .inl (.inr hm), hk⟩
    · rintro ⟨e1, hm, hk⟩
      simp only [List.mem_append, List.mem_cons, List.not_mem_nil, or_false] at hm ⊢
      rcases hm with (hm | hm) | hm
      · exact ⟨e1, .inl hm, hk⟩
      · exact ⟨e1, .inr (.inr hm), hk⟩
      · cases hm; exact ⟨e, .inr (.inl rfl), hk⟩
  · rw [hr.len]; simp only [List.length_append, List.length_cons, List.length_nil]; omega
  · have e1 : (X ++ Y ++ [(b, (⟨e.key, v, is⟩ : En))]).map (fun p => p.2.key) = (X.map fun p => p.2.key) ++ (Y.map fun p => p.2.key) ++ [e.key] := by simp
    have e2 : (X ++ (b, e) :: Y).map (fun p => p.2.key) = (X.map fun p => p.2.key) ++ e.key :: (Y.map fun p => p.2.key) := by simp
    have kn := hr.kn
    rw [e2] at kn
    rw [e1]
    exact (hperm e.key _ _).nodup_iff.2 kn
  · have := hsub d.r (.inr hm)
    rcases this with h1 | h1
    · exact hr.rc h1
    · exact hr.rl h1
end
end Go.Proofs.YtkhinnchplahlaaGreatDoor
end

section
set_option maxRecDepth 100000
namespace Go.Proofs.YtkhinnchplahlaaGreatDoor
open Go Go.Vc Go.Proofs Go.Dk Go.Kv

section
variable {h h' : Heap} {c : Nat} {d : Cd} {L : List (Nat × En)} {ml : List (Str × Nat)} {S : Nat → Prop}
def ownC (c : Nat) (d : Cd) (L : List (Nat × En)) (q : Nat) : Prop := q = c ∨ q = d.r ∨ q ∈ L.map (·.1)
theorem Raw.lt (hr : Raw h c d L ml) : ∀ q, ownC c d L q → q < h.size := by
  rintro q (rfl | rfl | hq)
  · exact hr.ring.shp.lt.1
  · exact hr.map.lt
  · obtain ⟨p, hp, rfl⟩ := List.mem_map.1 hq
    exact hr.ring.shp.lt.2 p hp
theorem oldest_spec {b : Nat} {e : En} {K : Heap → Prop} (hr : Raw h c d ((b, e) :: L) ml)
    (k : ∀ h', Raw h' c d L (mDel ml e.key) → Upd (ownC c d ((b, e) :: L)) h h' → K h') :
    HC Tryz.prog 56 #[.pointer (some ⟨b, 0, none⟩)] h fun v h1 => v = .tuple #[] ∧ ∃ p, some (Addr.mk c 0 none) = some p ∧ ∃ a, Reads Tryz.prog (Instr.loadAt 115 (.pointer (some (p.add 2)))) h1 (.map a) ∧
      ∃ p2, some (Addr.mk b 0 none) = some p2 ∧ ∃ s, Reads Tryz.prog (Instr.loadAt 9 (.pointer (some p2))) h1 (.string s) ∧ SVC Tryz.prog (Builtin.delete_ #[115, 9] 0 #[.map a, .string s]) h1 fun v h2 => v = .tuple #[] ∧ K h2 := by
  have hrs := hr.ring.shp
  refine (out_spec (X := []) (Y := L) hr.ring).mono ?_
  rintro v h1 ⟨rfl, r1, s1, u1⟩
  obtain ⟨pn, pe, hc1⟩ := s1.ca
  obtain ⟨pn', pe', hb1⟩ := s1.en (b, e) List.mem_cons_self
  have hm1 : MapAt Me h1 d.r ml := hr.map.upd u1 fun hq => hq.elim hr.rc hr.rl
  refine ⟨rfl, _, rfl, _, reads_load kMe (cell_cells hc1 rfl), _, rfl, _, reads_load kS (cell_cells0 hb1 rfl), svc_delete (M := Me) (k := e.key) hm1 fun h2 z2 u2 m2 => ⟨rfl, k h2 ?_ ?_⟩⟩
  · have hnd : (mKeys ml).Nodup := by obtain ⟨_, _, _, _, h, _⟩ := hr.map; exact h
    have kn := hr.kn
    rw [List.map_cons] at kn
    have kn2 := List.nodup_cons.1 kn
    have rl := hr.rl
    rw [List.map_cons, List.mem_cons] at rl
    refine ⟨r1.updM u2.m (fun hq => hr.rc hq.symm) fun p hp hq => rl (.inr (hq ▸ List.mem_map_of_mem (f := fun p : Nat × En => p.1) hp)), m2, fun k' b' => ?_, ?_, kn2.2, hr.rc, fun hm => rl (.inr hm)⟩
    · rw [mGet_del hnd]
      by_cases ek : e.key = k'
      · rw [if_pos ek]
        constructor
        · intro h; cases h
        · rintro ⟨e1, hm, hk⟩
          exact absurd (by
            have : e.key = e1.key := ek.trans hk.symm
            rw [this]; exact List.mem_map_of_mem (f := fun p : Nat × En => p.2.key) hm) kn2.1
      · rw [if_neg ek, hr.get]
        constructor
        · rintro ⟨e1, hm, hk⟩
          rcases List.mem_cons.1 hm with hm | hm
          · cases hm; exact absurd hk ek
          · exact ⟨e1, hm, hk⟩
        · rintro ⟨e1, hm, hk⟩
          exact ⟨e1, List.mem_cons_of_mem _ hm, hk⟩
    · have h1 := mdel_len ml e.key b ((hr.get e.key b).2 ⟨e, List.mem_cons_self, rfl⟩)
      have h2 := hr.len
      rw [List.length_cons] at h2; omega
  · refine Upd.trans (u1.mono fun q hq => ?_) (u2.mono fun q hq => .inr (.inl hq))
    rcases hq with hq | hq
    · exact .inl hq
    · exact .inr (.inr hq)
theorem fresh_spec {k v : Str} {is : Bool} {K : Heap → Prop} (hr : Raw h c d L ml) (hno : mGet ml k = none)
    (kk : ∀ h', Raw h' c d (L ++ [(h.size, ⟨k, v, is⟩)]) (mPut ml k h.size) → Upd (ownC c d L) h h' → h.size < h'.size → K h') :
    ∃ p, some (Addr.mk c 0 none) = some p ∧ ∃ a, Reads Tryz.prog (Instr.loadAt 115 (.pointer (some (p.add 2)))) (h.push (entBox ⟨k, ⟨#[]⟩, false⟩ none none)) (.map a) ∧
      SVC Tryz.prog (Instr.mapUpdate 115 (.map a) (.string k) (.pointer (some ⟨h.size, 0, none⟩))) (h.push (entBox ⟨k, ⟨#[]⟩, false⟩ none none)) fun _ h2 => ∃ p2, some (Addr.mk h.size 0 none) = some p2 ∧
      SVC Tryz.prog (Instr.storeAt 9 (.pointer (some (p2.add 1))) (.string v)) h2 fun _ h3 => ∃ p3, some (Addr.mk h.size 0 none) = some p3 ∧ SVC Tryz.prog (Instr.storeAt 4 (.pointer (some (p3.add 2))) (.bool is)) h3 fun _ h4 =>
      HC Tryz.prog 57 #[.pointer (some ⟨c, 0, none⟩), .pointer (some ⟨h.size, 0, none⟩)] h4 fun v h5 => v = .tuple #[] ∧ K h5 := by
  have kp := keep_push h (entBox ⟨k, ⟨#[]⟩, false⟩ none none)
  have bp := push_at h (entBox ⟨k, ⟨#[]⟩, false⟩ none none)
  have zp : (h.push (entBox ⟨k, ⟨#[]⟩, false⟩ none none)).size = h.size + 1 := by simp
  generalize h.push (entBox ⟨k, ⟨#[]⟩, false⟩ none none) = H at kp bp zp
  have hlt := hr.lt
  have hrH : Raw H c d L ml := hr.updM (S := fun _ => False) kp.m id id fun _ _ => id
  refine ⟨_, rfl, _, hrH.rm, svc_mapUpdate (M := Me) (k := k) (v := h.size) hrH.map fun h2 z2 u2 m2 => ⟨_, rfl, ?_⟩⟩
  have hne : h.size ≠ d.r := fun e => by have := hlt d.r (.inr (.inl rfl)); omega
  refine svc_ent_val (u2.at bp hne) fun h3 z3 b3 u3 => ⟨_, rfl, svc_ent_is b3 fun h4 z4 b4 u4 => ?_⟩
  have r2 : Ring h2 c d L := hrH.ring.updM u2.m (fun hq => hr.rc hq.symm) fun p hp hq => hr.rl (hq ▸ List.mem_map_of_mem (f := fun p : Nat × En => p.1) hp)
  have hcs : c ≠ h.size := fun e => by have := hlt c (.inl rfl); omega
  have hLs : ∀ p ∈ L, p.1 ≠ h.size := fun p hp e => by have := hlt p.1 (.inr (.inr (List.mem_map_of_mem (f := fun p : Nat × En => p.1) hp))); omega
  have r4 : Ring h4 c d L := (r2.updM u3.m hcs fun p hp => hLs p hp).updM u4.m hcs fun p hp => hLs p hp
  have m4 : MapAt Me h4 d.r (mPut ml k h.size) := (m2.upd u3 (Ne.symm hne)).upd u4 (Ne.symm hne)
  have hsn : h.size ∉ L.map (·.1) := fun hm => by
    obtain ⟨p, hp, e⟩ := List.mem_map.1 hm
    exact hLs p hp e
  refine (in_spec (e := ⟨k, v, is⟩) r4 (Shp.snoc r4 b4 (Ne.symm hcs) hsn)).mono ?_
  rintro w h5 ⟨rfl, r5, u5⟩
  have hsub : ∀ q, q < h.size → (q = c ∨ q ∈ (L ++ [(h.size, (⟨k, v, is⟩ : En))]).map (·.1)) → ownC c d L q := fun q hl hq => by
    simp only [List.map_append, List.map_cons, List.map_nil, List.mem_append, List.mem_cons, List.not_mem_nil, or_false] at hq
    rcases hq with hq | hq | hq
    · exact .inl hq
    · exact .inr (.inr hq)
    · omega
  have uu : Upd (ownC c d L) h h5 := by
    have a1 : Upd (fun q => q < h.size → ownC c d L q) h H := kp.upd _
    have a2 : Upd (fun q => q < h.size → ownC c d L q) H h5 := (((u2.mono fun q hq _ => .inr (.inl hq)).trans (u3.mono fun q hq hl => by omega)).trans (u4.mono fun q hq hl => by omega)).trans (u5.mono fun q hq hl => hsub q hl hq)
    exact (a1.trans a2).of_sub fun q hl hq => hq hl
  have z5 := u5.size
  refine ⟨rfl, kk h5 ⟨r5, m4.upd u5 fun hq => ?_, fun k' b' => ?_, ?_, ?_, hr.rc, fun hm => ?_⟩ uu (by omega)⟩
  · simp only [List.map_append, List.map_cons, List.map_nil, List.mem_append, List.mem_cons, List.not_mem_nil, or_false] at hq
    rcases hq with hq | hq | hq
    · exact hr.rc hq
    · exact hr.rl hq
    · exact hne hq.symm
  · rw [mGet_put]
    by_cases ek : k = k'
    · subst ek
      rw [if_pos rfl]
      constructor
      · intro h; cases h; exact ⟨_, List.mem_append_right _ List.mem_cons_self, rfl⟩
      · rintro ⟨e1, hm, hk⟩
        rcases List.mem_append.1 hm with hm | hm
        · have := (hr.get k b').2 ⟨e1, hm, hk⟩
          rw [hno] at this; cases this
        · cases List.mem_singleton.1 hm; rfl
    · rw [if_neg ek, hr.get]
      constructor
      · rintro ⟨e1, hm, hk⟩; exact ⟨e1, List.mem_append_left _ hm, hk⟩
      · rintro ⟨e1, hm, hk⟩
        rcases List.mem_append.1 hm with hm | hm
        · exact ⟨e1, hm, hk⟩
        · cases List.mem_singleton.1 hm; exact absurd hk ek
  · rw [mput_len ml k _ hno, hr.len]; simp
  · rw [List.map_append]
    refine List.nodup_append.2 ⟨hr.kn, by simp, fun x hx y hy e2 => ?_⟩
    have hy : y = k := by simpa using hy
    obtain ⟨p, hp, e3⟩ := List.mem_map.1 hx
    have := (hr.get k p.1).2 ⟨p.2, hp, e3.trans (e2.trans hy)⟩
    rw [hno] at this; cases this
  · simp only [List.map_append, List.map_cons, List.map_nil, List.mem_append, List.mem_cons, List.not_mem_nil, or_false] at hm
    rcases hm with hm | hm
    · exact hr.rl hm
    · exact hne hm.symm
theorem Raw.rnew (hr : Raw h c d L ml) : Reads Tryz.prog (Instr.loadAt 116 (.pointer (some (((⟨c, 0, none⟩ : Addr).add 3).add 3)))) h (.pointer (some ((L.map fun p => ad p.1).headD (endA c)))) := by
  have eC : (⟨c, 0, none⟩ : Addr).add 3 = endA c := Addr.add_row c 0 3
  rw [eC]
  exact nwf_rd hr.ring.ch.fore
set_option maxHeartbeats 1000000 in
theorem keep_spec {k v : Str} {is : Bool} (hr : Raw h c d L ml) (hmost : L.length ≤ d.most) (hm2 : d.most ≤ 1024) : HC Tryz.prog 59 #[.pointer (some ⟨c, 0, none⟩), .string k, .string v, .bool is] h fun w h' => w = .tuple #[] ∧
    ∃ L' ml', Raw h' c d L' ml' ∧ L'.map (fun p : Nat × En => p.2) = ekeep d.most (L.map (fun p : Nat × En => p.2)) k v is ∧ L'.length ≤ d.most ∧ (∀ q, ownC c d L' q → ownC c d L q ∨ h.size ≤ q) ∧ Upd (ownC c d L) h h' := by
  refine HC_of_vc (args := [.pointer (some ⟨c, 0, none⟩), .string k, .string v, .bool is]) (base := 70) (cuts := []) (bigs := []) kM Tryz.func59 ?_
  rw [vcCKeep]
  refine ⟨_, rfl, _, hr.rm, _, hr.look k, _, reads_eql_nil uEp, ?_⟩
  cases hg : mGet ml k with
  | none =>
    have hf := hr.miss hg
    refine br_intro (fun _ => ?_) fun e => by cases e
    refine ⟨_, rfl, _, hr.rmost, br_intro (fun e => ?_) fun e => ?_⟩
    · have e : d.most = 0 := by simpa using e
      refine ⟨rfl, L, ml, hr, ?_, hmost, fun q hq => .inl hq, Upd.refl _ _⟩
      unfold ekeep
      rw [hf, if_neg (by decide), if_pos e]
    · have e : d.most ≠ 0 := by simpa using e
      have hkeep : ∀ L2 : List (Nat × En), L2 = (if L.length = d.most then L.tail else L) → ∀ b, (L2 ++ [(b, (⟨k, v, is⟩ : En))]).map (fun p : Nat × En => p.2) = ekeep d.most (L.map (fun p : Nat × En => p.2)) k v is := fun L2 e2 b => by
        unfold ekeep
        rw [hf, if_neg (by decide), if_neg e, List.map_append, List.length_map, e2]
        split
        · rw [List.map_tail]; rfl
        · rfl
      refine ⟨_, rfl, _, hr.rm, _, reads_len_map hr.map, _, rfl, _, hr.rmost, br_intro (fun e2 => ?_) fun e2 => ?_⟩
      · have hlen := hr.len
        have e2 : ml.length = d.most := Int.ofNat_inj.1 (beq_iff_eq.1 e2)
        cases hL : L with
        | nil => rw [hL, List.length_nil] at hlen; omega
        | cons p L1 =>
          obtain ⟨b, e0⟩ := p
          subst hL
          have rn := hr.rnew
          refine ⟨_, rfl, _, rn, ?_⟩
          refine (oldest_spec (K := fun h2 => ∃ p, some (Addr.mk c 0 none) = some p ∧ ∃ a, Reads Tryz.prog (Instr.loadAt 115 (.pointer (some (p.add 2)))) (h2.push (entBox ⟨k, ⟨#[]⟩, false⟩ none none)) (.map a) ∧
            SVC Tryz.prog (Instr.mapUpdate 115 (.map a) (.string k) (.pointer (some ⟨h2.size, 0, none⟩))) (h2.push (entBox ⟨k, ⟨#[]⟩, false⟩ none none)) fun _ h3 => ∃ p2, some (Addr.mk h2.size 0 none) = some p2 ∧
            SVC Tryz.prog (Instr.storeAt 9 (.pointer (some (p2.add 1))) (.string v)) h3 fun _ h4 => ∃ p3, some (Addr.mk h2.size 0 none) = some p3 ∧ SVC Tryz.prog (Instr.storeAt 4 (.pointer (some (p3.add 2))) (.bool is)) h4 fun _ h5 =>
            HC Tryz.prog 57 #[.pointer (some ⟨c, 0, none⟩), .pointer (some ⟨h2.size, 0, none⟩)] h5 fun w h' => w = .tuple #[] ∧ (Value.tuple #[] = .tuple #[] ∧
              ∃ L' ml', Raw h' c d L' ml' ∧ L'.map (fun p : Nat × En => p.2) = ekeep d.most (((b, e0) :: L1).map (fun p : Nat × En => p.2)) k v is ∧ L'.length ≤ d.most ∧ (∀ q, ownC c d L' q → ownC c d ((b, e0) :: L1) q ∨ h.size ≤ q) ∧ Upd (ownC c d ((b, e0) :: L1)) h h')) hr fun h2 hr2 u2 => ?_).mono fun _ _ h => h
          have hno2 : mGet (mDel ml e0.key) k = none := by
            have hnd : (mKeys ml).Nodup := by obtain ⟨_, _, _, _, h, _⟩ := hr.map; exact h
            rw [mGet_del hnd]; split <;> first | rfl | exact hg
          refine fresh_spec hr2 hno2 fun h' hr' u' z' => ⟨rfl, _, _, hr', hkeep L1 ?_ _, ?_, fun q hq => ?_, ?_⟩
          · rw [if_pos (by rw [← hlen]; exact e2)]; rfl
          · simp only [List.length_append, List.length_cons, List.length_nil] at hmost ⊢; omega
          · have hz := u2.size
            rcases hq with hq | hq | hq
            · exact .inl (.inl hq)
            · exact .inl (.inr (.inl hq))
            · simp only [List.map_append, List.map_cons, List.map_nil, List.mem_append, List.mem_cons, List.not_mem_nil, or_false] at hq
              rcases hq with hq | hq
              · exact .inl (.inr (.inr (List.mem_cons_of_mem _ hq)))
              · exact .inr (by omega)
          · refine u2.trans (u'.mono fun q hq => ?_)
            rcases hq with hq | hq | hq
            · exact .inl hq
            · exact .inr (.inl hq)
            · exact .inr (.inr (List.mem_cons_of_mem _ hq))
      · have hlen := hr.len
        have e2 : ml.length ≠ d.most := by
          intro e3; rw [e3] at e2; simp at e2
        refine fresh_spec hr hg fun h' hr' u' z' => ⟨rfl, _, _, hr', hkeep L ?_ _, ?_, fun q hq => ?_, u'⟩
        · rw [if_neg (by rw [← hlen]; exact e2)]
        · simp only [List.length_append, List.length_cons, List.length_nil]; omega
        · rcases hq with hq | hq | hq
          · exact .inl (.inl hq)
          · exact .inl (.inr (.inl hq))
          · simp only [List.map_append, List.map_cons, List.map_nil, List.mem_append, List.mem_cons, List.not_mem_nil, or_false] at hq
            rcases hq with hq | hq
            · exact .inl (.inr (.inr hq))
            · exact .inr (by omega)
  | some b =>
    obtain ⟨X, Y, e, rfl, hk, hf, hcut⟩ := hr.hit hg
    refine br_intro (fun e => by cases e) fun _ => ?_
    refine (out_spec hr.ring).mono ?_
    rintro w h46 ⟨rfl, r46, s46, u46⟩
    obtain ⟨pn, pe, b46⟩ := s46.en (b, e) (by simp)
    refine ⟨rfl, _, rfl, svc_ent_val b46 fun h49 z49 b49 u49 => ⟨_, rfl, svc_ent_is b49 fun h52 z52 b52 u52 => ?_⟩⟩
    have hs := hr.ring.shp
    have hnd := hs.nd
    rw [List.map_append, List.map_cons] at hnd
    obtain ⟨n1, n2, n3⟩ := List.nodup_append.1 hnd
    have hbc : c ≠ b := fun e2 => hs.ne (p := (b, e)) (by simp) e2.symm
    have hXY : ∀ p ∈ X ++ Y, p.1 ≠ b := fun p hp e2 => by
      rcases List.mem_append.1 hp with hp | hp
      · exact n3 _ (List.mem_map_of_mem (f := fun p : Nat × En => p.1) hp) _ List.mem_cons_self e2
      · have hh := List.mem_map_of_mem (f := fun p : Nat × En => p.1) hp
        rw [e2] at hh
        exact (List.nodup_cons.1 n2).1 hh
    have r52 : Ring h52 c d (X ++ Y) := (r46.updM u49.m hbc fun p hp => hXY p hp).updM u52.m hbc fun p hp => hXY p hp
    have hrb : d.r ≠ b := fun e2 => hr.rl (by rw [e2]; simp)
    have m46 : MapAt Me h46 d.r ml := hr.map.upd u46 fun hq => hq.elim hr.rc hr.rl
    have m52 : MapAt Me h52 d.r ml := (m46.upd u49 hrb).upd u52 hrb
    have u52' : Upd (fun q => q = c ∨ q ∈ (X ++ (b, e) :: Y).map (·.1)) h h52 := (u46.trans (u49.mono fun q hq => .inr (by rw [hq]; simp))).trans (u52.mono fun q hq => .inr (by rw [hq]; simp))
    refine (reput_spec (v := v) (is := is) (K := fun h' => Value.tuple #[] = .tuple #[] ∧ ∃ L' ml', Raw h' c d L' ml' ∧ L'.map (fun p : Nat × En => p.2) = ekeep d.most ((X ++ (b, e) :: Y).map (fun p : Nat × En => p.2)) k v is ∧ L'.length ≤ d.most ∧ (∀ q, ownC c d L' q → ownC c d (X ++ (b, e) :: Y) q ∨ h.size ≤ q) ∧ Upd (ownC c d (X ++ (b, e) :: Y)) h h') hr r52 ⟨pn, pe, b52⟩ m52 u52' fun h' r' u' => ⟨rfl, _, _, r', ?_, ?_, fun q hq => .inl ?_, u'.mono fun q hq => ?_⟩).mono fun _ _ h => h
    · unfold ekeep
      rw [hf, if_pos (by rfl), hcut, List.map_append, hk]; rfl
    · simp only [List.length_append, List.length_cons, List.length_nil] at hmost ⊢; omega
    · rcases hq with hq | hq | hq
      · exact .inl hq
      · exact .inr (.inl hq)
      · simp only [List.map_append, List.map_cons, List.map_nil, List.mem_append, List.mem_cons, List.not_mem_nil, or_false] at hq ⊢
        refine .inr (.inr ?_)
        simp only [List.map_append, List.map_cons, List.mem_append, List.mem_cons]
        rcases hq with (hq | hq) | hq
        · exact .inl hq
        · exact .inr (.inr hq)
        · exact .inr (.inl hq)
    · rcases hq with hq | hq
      · exact .inl hq
      · exact .inr (.inr hq)
end
end Go.Proofs.YtkhinnchplahlaaGreatDoor
end
