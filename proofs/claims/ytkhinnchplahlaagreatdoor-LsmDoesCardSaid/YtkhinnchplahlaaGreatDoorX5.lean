/-
  Texts of this seat, laid one behind the other: LmJ LsF LmP LmO Ls5 LmQ LmI Ls4 LmD LmH KvD KvE LmG VcK LmE Ls6 LmF. Conditions: none.
-/
import Derived.Test.YtkhinnchplahlaaGreatDoorX4
import Derived.WideLaws
import Derived.Test.YtkhinnchplahlaaGreatDoorProg
import Derived.KernelRfl
import Derived.SizedLaws
section
set_option linter.unusedVariables false
set_option linter.unusedSimpArgs false
set_option maxRecDepth 100000
namespace Go.Proofs.YtkhinnchplahlaaGreatDoor
open Go Go.Vc Go.Proofs Go.Dk Go.Kv Go.Ls Go.Cd
open Go.Pg (Quiet Nx layW partB nparts partsW partsW_len)

def joinS (S : TS) : TS := { S with names := [S.next], tabs := [S.whole] }
def jlst (S : TS) : List Str := pagesOf (tabF (lstT [S.next] S.laid))
theorem foldl_snoc {α β : Type} (f : β → α → β) (b : β) {l : List α} {j : Nat} {a : α} (h : l[j]? = some a) : (l.take (j + 1)).foldl f b = f ((l.take j).foldl f b) a := by
  obtain ⟨hj, e⟩ := List.getElem?_eq_some_iff.1 h
  rw [List.take_succ_eq_append_getElem hj, e, List.foldl_append]; rfl
section
variable {g g' : Nat → Nat} {h h' : Heap} {t d l n c : Nat} {nm : Str} {lp A : Option Addr} {v : Tv} {w : Tw} {N S : Nat → Prop} {x : D}
set_option maxHeartbeats 4000000 in
theorem join_spec {T : TS} (p : TrAt g h t d nm (tw T)) (hnm : nm.size ≤ 1000000) (tab : TabH h) (gbN : N gb ∧ g gb = 0) (dn : DN N d x h) (gN : ∀ q, g q ≠ 0 → N q) (tf : TF nm x.now T) (hq : Quiet x)
    (hm : T.tabs.flatten.length ≤ 100000) (hnl : T.names.length ≤ 10000) (hnx : T.next < 900000) (hla : T.laid < 1000000) (hlp : nparts (tabF (lstT [T.next] T.laid)) ≤ 2) (hww : x.waits.length ≤ 90000000) (hroom : x.room ≤ 100000000) (hfr0 : 0 ≤ Dk.free x) :
    HC Tryz.prog 44 #[.pointer (some ⟨t, 0, none⟩)] h fun vv h' => vv = .int .i64 0 ∧
      ((Dk.free x < (((tabF T.whole).length / 512 + 3 : Nat) : Int) ∧ Keep h.size h h') ∨
      ((((tabF T.whole).length / 512 + 3 : Nat) : Int) ≤ Dk.free x ∧ ∃ g' x', Trs g N h t d nm (tw (joinS T)) x' g' h' ∧ Quiet x' ∧ x'.room = x.room ∧ x'.now = (T.names.map (nmF nm)).foldl (fun F f => del f F) (layF nm T.next (pagesOf (tabF T.whole)) (jlst T) x.now) ∧ x'.waits.length ≤ x.waits.length + 50000)) := by
  obtain ⟨l, A, n, c, v, pp⟩ := p
  have p := pp.core
  have hil : (intsL (tw T).names).length = T.names.length := by unfold intsL; rw [List.length_map]; rfl
  have hfitT : ∀ w ∈ T.tabs.flatten, Fit w := fun w hw => by
    obtain ⟨U, hU, hw⟩ := List.mem_flatten.1 hw
    exact (tf.tab U hU).2 w hw
  have hwf : ∀ w ∈ T.whole, Fit w := fun w hw => ofL_fit hfitT w (List.mem_filter.1 hw).1
  have hwl : T.whole.length ≤ T.tabs.flatten.length := by
    have h1 := ofL_len T.tabs.flatten
    have h2 := List.length_filter_le (fun w : Wr => !w.gone) (ofL T.tabs.flatten)
    show ((ofL T.tabs.flatten).filter fun w => !w.gone).length ≤ _
    omega
  have htl := tabF_len hwf (by omega)
  have hns := next_new tf.inc
  have htT := p.tbl.1
  have hTb : v.ts.length = T.tabs.length := p.tbs.1
  have hTn := tf.lens
  refine HC_of_vc (args := [.pointer (some ⟨t, 0, none⟩)]) (base := 93) (cuts := []) (bigs := []) kM Tryz.func44 ?_
  rw [vcLmJoin]
  refine ⟨_, rfl, _, _, _, p.rt, (merge_spec p.tbl.sl p.tbs (by omega) (by show T.tabs.flatten.length ≤ 1000000; omega)).mono ?_⟩
  rintro vv h5 ⟨k5, y, ay, ky, cy, rfl, hy, byy, oy0, ny⟩
  have oy : Vc.Own WrE 42 h.size h5 ay ky cy T.whole := oy0
  clear oy0
  have z5 := k5.size
  have hyl := at_lt byy
  have hby := oy.block
  have dn1 : DN (Nv N h h5) d x h5 := dn.wide2 k5
  have ty : TbAt (fun q => h.size ≤ q ∧ q < h5.size) h5 y T.whole := ⟨ay, ky, cy, byy, oy.sl, oy.2.1, ⟨hy, hyl⟩, fun _ q hq => hby q hq⟩
  refine ⟨_, rfl, fun H => Keep h5.size h5 H, Keep.refl _ _, (tbytes_spec ty (by omega) hwf).mono ?_⟩
  rintro vv h9 ⟨k9, a10, k11, c12, rfl, o9⟩
  have hk11 := o9.1
  refine ⟨_, _, _, rfl, k9, by decide, _, rfl, _, fun H kH => ((p.keep k5).keep kH).rd, (dn1.keep k9).free.mono ?_⟩
  rintro vv h17 ⟨k17, rfl⟩
  have k517 := k9.trans (k17.mono k9.size)
  have k017 := k5.trans (k517.mono z5)
  have hfle : Dk.free x ≤ 100000000 := by unfold Dk.free; omega
  rw [tdiv512, wrap_i64 (n := ((k11 / 512 : Nat) : Int)) (by omega) (by omega), wrap_i64 (by omega) (by omega)]
  refine ⟨_, rfl, br_intro (fun e => ⟨rfl, .inl ⟨?_, k017⟩⟩) fun e => ?_⟩
  · have := of_decide_eq_true e; omega
  have hroom3 : (((tabF T.whole).length / 512 + 3 : Nat) : Int) ≤ Dk.free x := by have := of_decide_eq_false e; omega
  have p17 := p.keep k017
  have dn17 := dn1.keep k517
  have hnx2 : IntKind.i64.wrap (((tw T).nx : Int) + (1 : Int)) = ((T.next + 1 : Nat) : Int) := by
    show IntKind.i64.wrap ((T.next : Int) + 1) = _
    rw [wrap_i64 (by omega) (by omega)]; rfl
  refine ⟨_, rfl, _, p17.rnx, _, rfl, _, p17.rnx, _, rfl, ?_⟩
  rw [hnx2]
  refine svc_store_box (k := 6) kzI p17.box (by simp) rfl (one_int _ _) fun h25 z25 b25 u25 => ?_
  have p25 : TrC g h25 t d nm (some ⟨l, 0, none⟩) v ⟨(tw T).b, (tw T).mem, (tw T).names, (tw T).tabs, T.next + 1, (tw T).la, (tw T).ld⟩ := p17.ints u25 (by rw [b25]; rfl)
  have tnN : N t := gN t (by rw [p.gt]; decide)
  have dn25 : DN (Nv N h h5) d x h25 := dn17.keepM u25.m fun q _ e => by rw [e]; exact .inl tnN
  have hgbl : gb < h.size := dn.lt gbN.1
  have hgbt : gb ≠ t := fun e => by have := gbN.2; rw [e, p.gt] at this; cases this
  have tab25 : TabH h25 := (tab.updM k017.m (S := fun _ => False) id).updM u25.m hgbt
  have z17 := k017.size
  have z517 := k517.size
  refine ⟨fun H => Keep h25.size h25 H, Keep.refl _ _, _, rfl, _, fun H kH => (p25.keep kH).rd, (file_spec p25 hnm tab25 (by show T.next < 1000000; omega)).mono ?_⟩
  rintro vv h31 ⟨k31, rfl⟩
  have hnoF := tf.no_file tf.new_file
  have ty31 : TbAt (fun q => h.size ≤ q ∧ q < h5.size) h31 y T.whole := ((ty.keep k517).updM u25.m fun q hq e => by have := p.lt t (by rw [p.gt]; decide); omega).keep k31
  have hnp : nparts (tabF T.whole) ≤ (tabF T.whole).length / 512 + 1 := by unfold nparts; omega
  refine ⟨_, rfl, k31, (save_spec (f := nmF nm T.next) (ty31.mono fun _ _ => trivial) (by omega) hwf (dn25.keep k31) hq hnoF (by omega) (by omega)).mono ?_⟩
  rintro vv h34 ⟨rfl, dn34, u34⟩
  have z31 := k31.size
  have z34 := u34.size
  obtain ⟨a1, k', a2⟩ := save_nx (f := nmF nm T.next) (l := tabF T.whole) hq dn.ok.now hnoF (by unfold nparts; omega) (by omega)
  have hw1 := saveD_waits (nmF nm T.next) (tabF T.whole) x
  generalize hx1 : (saveD (nmF nm T.next) (tabF T.whole) x).2 = x1 at a2 hw1 dn34
  have p34 := (p25.keep k31).same u34 fun q hq hn => hn (.inl (gN q hq))
  have ty34 : TbAt (fun q => h.size ≤ q ∧ q < h5.size) h34 y T.whole := ty31.updM u34 fun q hq hn => hn (.inr hq)
  have tab34 : TabH h34 := (tab25.updM k31.m (S := fun _ => False) id).updM u34 fun hn => hn (.inl gbN.1)
  refine ⟨_, rfl, br_intro (fun e => by simp at e) fun _ => svc_buildSlice (bs_i (T.next : Int)) ⟨_, _, _, rfl, ?_⟩⟩
  have k37 := keep_push h34 (.cells ((IntE .i64).enc (T.next : Int)).toArray 3 (0, 0))
  have s37 : Sl (IntE .i64) _ (some ⟨h34.size, 0, none⟩) 1 (intsL [T.next]) := (own_box (E := IntE .i64) (T := 3) (n := 1) (xs := [(T.next : Int)]) rfl (Nat.le_refl h34.size) (push_at h34 (.cells ((IntE .i64).enc (T.next : Int)).toArray 3 (0, 0)))).sl
  have z37 : (h34.push (.cells ((IntE .i64).enc (T.next : Int)).toArray 3 (0, 0))).size = h34.size + 1 := by simp
  generalize h34.push (.cells ((IntE .i64).enc (T.next : Int)).toArray 3 (0, 0)) = h37 at k37 s37 z37 ⊢
  have p37 := p34.keep k37
  have dn37 := dn34.keep k37
  have hgx1 : x1.now = put (nmF nm T.next) (pagesOf (tabF T.whole)) x.now := a2.now
  have hno1 : mGet x1.now (nmD nm) = none := by
    rw [hgx1, get_put dn.ok.now, if_neg (Ne.symm (nmF_ne_D nm _))]; exact tf.no_draft
  have hp0 : pgs x.now (nmF nm T.next) = [] := by unfold pgs; rw [hnoF]; rfl
  have hfree1 : Dk.free x1 = Dk.free x - nparts (tabF T.whole) := by
    have h1 := tot_put dn.ok.now (nmF nm T.next) (pagesOf (tabF T.whole))
    rw [hp0, pagesOf_len] at h1
    unfold Dk.free
    rw [a2.room, hgx1]
    simp only [List.length_nil] at h1
    omega
  refine ⟨_, rfl, _, p37.rld, ?_⟩
  refine (lists_spec (names := [T.next]) (la := T.laid) p37 hnm (tab34.updM k37.m (S := fun _ => False) id) dn37 (fun q hq => .inl (gN q hq)) s37 (fun k hk => by rw [List.mem_singleton.1 hk]; omega) (by simp) hla a2.q hno1 (by omega) (by omega)).mono ?_
  rintro vv h44 ⟨rfl, u44, x2, k2, dn44, nx2, hw2⟩
  have z44 := u44.size
  have p44 := p37.same u44 fun q hq hn => hn (.inl (gN q hq))
  have ty44 : TbAt (fun q => h.size ≤ q ∧ q < h5.size) h44 y T.whole := (ty34.keep k37).updM u44 fun q hq hn => hn (.inr hq)
  have l44 : LogAt h44 l d nm A n c (tw T).b := by
    have nl : N l := gN l (by rw [pp.gl]; decide)
    have nA : n ≠ 0 → ∀ q, blk A q → N q := fun h0 q hq => gN q (by rw [pp.gA h0 q hq]; decide)
    have hlt : l ≠ t := p.nt pp.gl (by decide)
    have l25 := (pp.log.keep k017).updM u25.m hlt fun h0 q hq => p.nt (pp.gA h0 q hq) (by decide)
    exact (((l25.keep k31).updM u34 (fun hn => hn (.inl nl)) fun h0 q hq hn => hn (.inl (nA h0 q hq))).keep k37).updM u44 (fun hn => hn (.inl nl)) fun h0 q hq hn => hn (.inl (nA h0 q hq))
  refine ⟨_, rfl, br_intro (fun e => by simp at e) fun _ => ⟨_, rfl, _, _, _, p44.rs, svc_buildSlice (bs_i (T.next : Int)) ⟨_, _, _, rfl, ?_⟩⟩⟩
  have k51 := keep_push h44 (.cells ((IntE .i64).enc (T.next : Int)).toArray 3 (0, 0))
  have o51 : Vc.Own (IntE .i64) 3 h44.size _ (some ⟨h44.size, 0, none⟩) 1 1 [(T.next : Int)] := own_box (E := IntE .i64) (n := 1) rfl (Nat.le_refl h44.size) (push_at h44 (.cells ((IntE .i64).enc (T.next : Int)).toArray 3 (0, 0)))
  have z51 : (h44.push (.cells ((IntE .i64).enc (T.next : Int)).toArray 3 (0, 0))).size = h44.size + 1 := by simp
  generalize h44.push (.cells ((IntE .i64).enc (T.next : Int)).toArray 3 (0, 0)) = h51 at k51 o51 z51
  refine svc_buildSlice (bs_tb y) ⟨_, _, _, rfl, _, rfl, ?_⟩
  have k56 := keep_push h51 (.cells (TbE.enc y).toArray 95 (0, 0))
  have o56 : Vc.Own TbE 95 h51.size _ (some ⟨h51.size, 0, none⟩) 1 1 [y] := own_box (E := TbE) (n := 1) rfl (Nat.le_refl h51.size) (push_at h51 (.cells (TbE.enc y).toArray 95 (0, 0)))
  have z56 : (h51.push (.cells (TbE.enc y).toArray 95 (0, 0))).size = h51.size + 1 := by simp
  show SVC _ _ (h51.push (.cells (TbE.enc y).toArray 95 (0, 0))) _
  generalize h51.push (.cells (TbE.enc y).toArray 95 (0, 0)) = h56 at k56 o56 z56
  have k4456 : Keep h44.size h44 h56 := k51.trans (k56.mono (by omega))
  have p56 := p44.keep k4456
  refine svc_store_box (k := 4) zIs p56.box (by simp) rfl (one_slice _ _ _) fun h62 z62 b62 u62 => ⟨_, rfl, ?_⟩
  refine svc_store_box (k := 5) zTs b62 (by simp) rfl (one_slice _ _ _) fun h65 z65 b65 u65 => ?_
  have ut : Upd (fun q => q = t) h56 h65 := u62.trans u65
  have b65' : h65[t]? = some (trBox d nm (some ⟨l, 0, none⟩) ⟨v.am, v.km, v.cm, some ⟨h44.size, 0, none⟩, 1, 1, some ⟨h51.size, 0, none⟩, 1, 1, [y]⟩ (tw (joinS T))) := by rw [b65]; rfl
  have hltT := p.lt
  have htlt := p.lt t (by rw [p.gt]; decide)
  have hllt := p.lt l (by rw [pp.gl]; decide)
  have zut := ut.size
  obtain ⟨g', hg'⟩ : ∃ g', g' = tagL g h.size h5.size h44.size h51.size h51.size (some ⟨h51.size, 0, none⟩) := ⟨_, rfl⟩
  have gold : ∀ {q}, q < h.size → g' q = g q := fun h1 => by rw [hg']; exact tagL_old h1
  have g5 : ∀ {q}, h.size ≤ q → (q < h5.size ∨ (h44.size ≤ q ∧ q < h51.size)) → g' q = 5 := fun h1 h2 => by rw [hg']; exact tagL_5 h1 h2
  have g4 : g' h51.size = 4 := by rw [hg']; exact tagL_4 (by omega) (by omega) ⟨rfl, _, rfl, rfl⟩
  have gne : ∀ {q}, g' q ≠ 0 → (q < h.size ∧ g q ≠ 0) ∨ (h.size ≤ q ∧ (q < h5.size ∨ (h44.size ≤ q ∧ q < h51.size))) ∨ q = h51.size := fun h1 => by
    rw [hg'] at h1
    rcases tagL_ne h1 with h2 | h2 | h2
    · exact .inl h2
    · exact .inr (.inl h2)
    · exact .inr (.inr h2.1)
  -- the tree, with its one table
  have P65 : TrP g' h65 t d nm l A n c ⟨v.am, v.km, v.cm, some ⟨h44.size, 0, none⟩, 1, 1, some ⟨h51.size, 0, none⟩, 1, 1, [y]⟩ (tw (joinS T)) := by
    refine ⟨⟨b65', ?_, ?_, ?_, ?_, ?_, fun q hq => ?_, fun q hq => ?_, fun q hq => ?_, fun q hq => ?_⟩, ?_, ?_, fun h0 q hq => ?_⟩
    · exact p56.mem.upd ut fun q hq => p.nt (p.gm q hq) (by decide)
    · refine ((o51.upd (k56.upd fun _ => False) fun _ _ h => h).upd ut fun q hq e => ?_).mono (Nat.zero_le _)
      have h1 := (o51.block q hq).1
      omega
    · refine (o56.upd ut fun q hq e => ?_).mono (Nat.zero_le _)
      have h1 := (o56.block q hq).1
      omega
    · have h1 : TbAt (fun q => h.size ≤ q ∧ q < h5.size) h65 y T.whole := (ty44.keep k4456).updM ut.m fun q hq e => by omega
      refine ⟨rfl, fun i u U h2 h3 => ?_⟩
      have h0 : i = 0 := by
        have := (List.getElem?_eq_some_iff.1 h2).1
        simp at this; omega
      subst h0
      have h2 : some y = some u := h2
      have h3 : some T.whole = some U := h3
      injection h2 with h2
      injection h3 with h3
      subst h2 h3
      exact h1.mono fun q hq => g5 hq.1 (.inl hq.2)
    · rw [gold htlt]; exact p.gt
    · rw [gold (hltT q (by rw [p.gm q hq]; decide))]; exact p.gm q hq
    · obtain ⟨b, e1, e2⟩ := hq
      injection e1 with e1
      subst e1
      have e2 : h44.size = q := e2
      exact g5 (by omega) (.inr ⟨by omega, by omega⟩)
    · obtain ⟨b, e1, e2⟩ := hq
      injection e1 with e1
      subst e1
      have e2 : h51.size = q := e2
      rw [← e2]; exact g4
    · rcases gne hq with h1 | h1 | h1 <;> omega
    · exact (l44.keep k4456).updM ut.m (p.nt pp.gl (by decide)) fun h0 q hq => p.nt (pp.gA h0 q hq) (by decide)
    · rw [gold hllt]; exact pp.gl
    · rw [gold (hltT q (by rw [pp.gA h0 q hq]; decide))]; exact pp.gA h0 q hq
  have dn65 : DN (fun q => N q ∨ g' q ≠ 0) d x2 h65 := by
    have h1 : DN (Nv (Nv N h h5) h44 h56) d x2 h56 := dn44.wide2 k4456
    refine (h1.keepM ut.m fun q _ e => by rw [e]; exact .inl (.inl tnN)).sub fun q hq => ?_
    rcases hq with hq | hq
    · exact .inl (.inl hq)
    · rcases gne hq with h2 | h2 | h2
      · exact .inl (.inl (gN q h2.2))
      · rcases h2.2 with h3 | h3
        · exact .inl (.inr ⟨h2.1, h3⟩)
        · exact .inr ⟨by omega, by omega⟩
      · exact .inr ⟨by omega, by omega⟩
  have up65 : UpdM (fun q => ¬ N q ∨ g q = 1 ∨ g q = 2 ∨ g q = 3 ∨ g q = 4) h h65 := by
    have e1 : ∀ q, ¬ Nv N h h5 q → ¬ N q := fun q h1 h2 => h1 (.inl h2)
    have s : ∀ q, q = t → (¬ N q ∨ g q = 1 ∨ g q = 2 ∨ g q = 3 ∨ g q = 4) := fun q e => .inr (.inl (by rw [e]; exact p.gt))
    refine (k017.m.trans (u25.m.mono s)).trans ?_
    refine (k31.m.trans (u34.mono fun q h1 => .inl (e1 q h1))).trans ?_
    refine (k37.m.trans (u44.mono fun q h1 => .inl (e1 q h1))).trans ?_
    exact k4456.m.trans (ut.m.mono s)
  have tab65 : TabH h65 := ((tab34.updM k37.m (S := fun _ => False) id).updM u44 (fun hn => hn (.inl gbN.1))).updM (k4456.m (S := fun q => q = t) |>.trans ut.m) hgbt
  have old65 : Sl (IntE .i64) h65 v.an v.kn (intsL T.names) := by
    have h1 := p56.nms.upd ut fun q hq => p.nt (p.gn q hq) (by decide)
    exact h1.sl
  have hkn : v.kn = T.names.length := by have := p.nms.1; rw [hil] at this; exact this.symm
  have hbas : x2.now = layF nm T.next (pagesOf (tabF T.whole)) (jlst T) x.now := by rw [nx2.now, hgx1]; rfl
  have hsrt2 : SrtF x2.now := by rw [hbas]; exact (get_layF (nm := nm) dn.ok.now T.next (pagesOf (tabF T.whole)) (jlst T) nm).1
  have hget2 : ∀ k ∈ T.names, (mGet x2.now (nmF nm k)).isSome = true := fun k hk => by
    rw [hbas, (get_layF dn.ok.now T.next _ _ _).2, if_neg (nmF_ne_L nm k), if_neg (nmF_ne_D nm k), if_neg fun e => by have := hns k hk; rw [nmF_inj e] at this; omega]
    obtain ⟨i, hi, rfl⟩ := List.getElem_of_mem hk
    have hU : T.tabs[i]? = some (T.tabs[i]'(by omega)) := List.getElem?_eq_getElem (by omega)
    rw [tf.files i _ _ (List.getElem?_eq_getElem hi) hU]; rfl
  have hnd : T.names.Pairwise (· ≠ ·) := tf.inc.imp fun h1 h2 => by omega
  have hw0 : x2.waits.length ≤ x.waits.length + 49000 := by have : nparts (tabF (lstT [T.next] T.laid)) ≤ 2 := hlp; omega
  have hr2 : x2.room = x.room := by rw [nx2.room, a2.room]
  refine ⟨fun _ n69 G => ∃ (j : Nat) (y : D), n69 = j ∧ j ≤ T.names.length ∧ DN (fun q => N q ∨ g' q ≠ 0) d y G ∧ UpdM (fun q => ¬ (N q ∨ g' q ≠ 0)) h65 G ∧ Quiet y ∧ y.room = x.room ∧ y.now = ((T.names.take j).map (nmF nm)).foldl (fun F f => del f F) x2.now ∧ y.waits.length ≤ x2.waits.length,
    fun _ n69 _ => T.names.length - n69.toNat, ⟨0, x2, rfl, Nat.zero_le _, dn65, UpdM.refl _ _, nx2.q, hr2, by simp, Nat.le_refl _⟩, ?_⟩
  rintro n68 n69 G ⟨j, y2, rfl, hj, dG, uG, qG, rG, nG, wG⟩
  have PG := P65.same uG fun q hq hn => hn (.inr hq)
  refine br_intro (fun e => ?_) fun e => ?_
  · have e := of_decide_eq_true e
    have hjl : j < T.names.length := by omega
    have hqn : T.names[j]? = some (T.names[j]'hjl) := List.getElem?_eq_getElem hjl
    have hmem := List.getElem_mem hjl
    have hfresh : nmF nm (T.names[j]'hjl) ∉ (T.names.take j).map (nmF nm) := fun hin => by
      obtain ⟨m2, hm2, em⟩ := List.mem_map.1 hin
      obtain ⟨i, hi, rfl⟩ := List.getElem_of_mem hm2
      rw [List.length_take] at hi
      have := (List.pairwise_iff_getElem.1 hnd) i j (by omega) hjl (by omega)
      rw [List.getElem_take] at em
      exact this (nmF_inj em)
    generalize T.names[j]'hjl = m at hqn hmem hfresh
    have hm6 := hns m hmem
    have hqi : (intsL T.names)[j]? = some (m : Int) := by unfold intsL; rw [List.getElem?_map, hqn]; rfl
    have sG : Sl (IntE .i64) G v.an v.kn (intsL T.names) := old65.updM uG fun _ q hq hn => hn (.inl (gN q (by rw [p.gn q hq]; decide)))
    obtain ⟨p71, ea, hp71⟩ := sG.get hqi
    have tabG : TabH G := tab65.updM uG fun hn => hn (.inl gbN.1)
    refine ⟨p71, ⟨ea, by omega, e⟩, (m : Int), reads_load kI (by rw [Int.toNat_natCast]; exact hp71 0 _ rfl), fun H => Keep G.size G H, Keep.refl _ _, _, rfl, _, fun H kH => (PG.core.keep kH).rd, (file_spec PG.core hnm tabG (by omega)).mono ?_⟩
    rintro vv h78 ⟨k78, rfl⟩
    have hsome : (mGet y2.now (nmF nm m)).isSome = true := by
      rw [nG, (get_dels _ hsrt2 _).2, if_neg hfresh]; exact hget2 m hmem
    refine ⟨_, rfl, k78, ((dG.keep k78).remove (s := nmF nm m) (by omega)).mono ?_⟩
    rintro vv h81 ⟨st, rfl⟩
    obtain ⟨r1, r2⟩ := Pg.remove_nx qG hsome
    have hwr := Pg.remove_waits y2 (nmF nm m)
    rw [r1]
    refine ⟨_, rfl, br_intro (fun e => by simp at e) fun _ => ?_⟩
    rw [wrap_i64 (by omega) (by omega)]
    refine ⟨⟨j + 1, _, rfl, hjl, st.dn, uG.trans (k78.m.trans st.up), r2.q, by rw [r2.room]; exact rG, ?_, by omega⟩, by dsimp only; omega⟩
    rw [r2.now, nG, List.map_take, List.map_take, foldl_snoc (fun (F : Fs) f => del f F) x2.now (l := T.names.map (nmF nm)) (j := j) (a := nmF nm m) (by rw [List.getElem?_map, hqn]; rfl)]
  · have e := of_decide_eq_false e
    have hjn : j = T.names.length := by omega
    subst hjn
    rw [List.take_length, hbas] at nG
    refine ⟨rfl, .inr ⟨hroom3, g', y2, ⟨⟨l, A, n, c, _, PG⟩, dG, fun q hq => gold hq, up65.trans (uG.mono fun q h1 => .inl fun h2 => h1 (.inl h2))⟩, qG, rG, nG, by omega⟩⟩
end
end Go.Proofs.YtkhinnchplahlaaGreatDoor
end

section
set_option linter.unusedVariables false
set_option linter.unusedSimpArgs false
namespace Go.Ls
open Go Go.Vc Go.Dk Go.Kv Go.Cd Go.Pg

/-- the pages of a tree's tables, its list, its log. -/
def tabP (l : List (List Wr)) : Nat := (l.map fun T => nparts (tabF T)).sum
def lstN (S : TS) : Nat := if S.names = [] then 0 else nparts (tabF (lstT S.names S.laid))
def phi (S : TS) : Nat := npg (logB S.recs).length + tabP S.tabs + lstN S
section
variable {nm : Str} {F : Fs} {S : TS}
theorem pgs_none {f : Str} (h : mGet F f = none) : pgs F f = [] := by unfold pgs; rw [h]; rfl
theorem pgs_some {f : Str} {l : List Str} (h : mGet F f = some l) : pgs F f = l := by unfold pgs; rw [h]; rfl
theorem TF.lst_len (t : TF nm F S) : (pgs F (nmL nm)).length = lstN S := by
  unfold lstN
  by_cases h : S.names = []
  · rw [if_pos h, pgs_none (t.noL h).1]; rfl
  · rw [if_neg h, pgs_some (t.list h), pagesOf_len]
theorem TF.tot_append (t : TF nm F S) (l : List Wr) : tot (put nm (lpages (logB S.recs ++ frameB (recB (S.last + 1) l))) F) + phi S = tot F + phi { S with mem := S.mem ++ l, recs := S.recs ++ [(S.last + 1, l)] } := by
  have h1 := tot_put t.srt nm (lpages (logB S.recs ++ frameB (recB (S.last + 1) l)))
  rw [t.log, lpages_len, lpages_len] at h1
  have h2 : phi { S with mem := S.mem ++ l, recs := S.recs ++ [(S.last + 1, l)] } = npg (logB S.recs ++ frameB (recB (S.last + 1) l)).length + tabP S.tabs + lstN S := by
    unfold phi
    dsimp only
    rw [logB_snoc]
    rfl
  rw [h2]
  unfold phi
  omega
/-- the files of a lay. -/
theorem tot_layF (t : TF nm F S) (n : Nat) (hn : n ∉ S.names) (P1 P2 : List Str) : tot (layF nm n P1 P2 F) + lstN S = tot F + P1.length + P2.length := by
  have s1 := srt_put t.srt (nmF nm n) P1
  have s2 := srt_put s1 (nmD nm) P2
  have h1 := tot_put t.srt (nmF nm n) P1
  have h2 := tot_put s1 (nmD nm) P2
  have h3 := tot_moved s2 (a := nmD nm) (b := nmL nm) (Ne.symm (nmL_ne_D nm))
  rw [pgs_none (t.no_file hn)] at h1
  have e2 : mGet (put (nmF nm n) P1 F) (nmD nm) = none := by rw [get_put t.srt, if_neg (Ne.symm (nmF_ne_D nm n))]; exact t.no_draft
  rw [pgs_none e2] at h2
  have e3 : pgs (put (nmD nm) P2 (put (nmF nm n) P1 F)) (nmL nm) = pgs F (nmL nm) := by
    unfold pgs
    rw [get_put s1, if_neg (nmL_ne_D nm), get_put t.srt, if_neg (Ne.symm (nmF_ne_L nm n))]
  rw [e3, t.lst_len] at h3
  unfold layF
  simp only [List.length_nil] at h1 h2
  omega
theorem tabP_snoc (l : List (List Wr)) (T : List Wr) : tabP (l ++ [T]) = tabP l + nparts (tabF T) := by
  unfold tabP; rw [List.map_append, List.sum_append]; simp
theorem TF.tot_lay (t : TF nm F S) : tot (del nm (layF nm S.next (pagesOf (tabF (ofL S.mem))) (pagesOf (tabF (lstT (S.names ++ [S.next]) S.last))) F)) + phi S = tot F + phi ⟨[], S.names ++ [S.next], S.tabs ++ [ofL S.mem], [], S.last⟩ := by
  have hs := (get_layF (nm := nm) t.srt S.next (pagesOf (tabF (ofL S.mem))) (pagesOf (tabF (lstT (S.names ++ [S.next]) S.last))) nm)
  have h1 := tot_layF t S.next t.new_file (pagesOf (tabF (ofL S.mem))) (pagesOf (tabF (lstT (S.names ++ [S.next]) S.last)))
  have h2 := tot_del hs.1 nm
  have e : pgs (layF nm S.next (pagesOf (tabF (ofL S.mem))) (pagesOf (tabF (lstT (S.names ++ [S.next]) S.last))) F) nm = lpages (logB S.recs) := by
    rw [← t.log]
    unfold pgs
    rw [hs.2, if_neg (Ne.symm (under_ne (nmL_under nm))), if_neg (Ne.symm (under_ne (nmD_under nm))), if_neg (Ne.symm (under_ne (nmF_under nm _)))]
  rw [e, lpages_len] at h2
  rw [pagesOf_len, pagesOf_len] at h1
  have h3 : phi ⟨[], S.names ++ [S.next], S.tabs ++ [ofL S.mem], [], S.last⟩ = tabP S.tabs + nparts (tabF (ofL S.mem)) + nparts (tabF (lstT (S.names ++ [S.next]) S.last)) := by
    unfold phi lstN
    dsimp only
    rw [tabP_snoc, if_neg (by simp)]
    have : npg (logB []).length = 0 := rfl
    omega
  rw [h3]
  unfold phi
  omega
theorem tot_dels : ∀ (l : List (Str × Nat)) {G : Fs}, SrtF G → (l.map (·.1)).Nodup → (∀ p ∈ l, (pgs G p.1).length = p.2) → tot ((l.map (·.1)).foldl (fun F f => del f F) G) + (l.map (·.2)).sum = tot G
  | [], G, _, _, _ => rfl
  | p :: l, G, hs, hn, hp => by
    obtain ⟨n1, n2⟩ := List.nodup_cons.1 hn
    have h1 := tot_del hs p.1
    have ih := tot_dels l (G := del p.1 G) (srt_del hs p.1) n2 fun q hq => by
      rw [Dk.pgs_del, if_neg fun e => n1 (by show p.1 ∈ l.map (·.1); rw [← e]; exact List.mem_map_of_mem (f := fun p : Str × Nat => p.1) hq)]
      exact hp q (List.mem_cons_of_mem _ hq)
    rw [hp p List.mem_cons_self] at h1
    show tot ((l.map (·.1)).foldl (fun F f => del f F) (del p.1 G)) + (p.2 + (l.map (·.2)).sum) = tot G
    omega
theorem zip_sum : ∀ (a : List Nat) (b : List (List Wr)), a.length = b.length → ((a.zip b).map fun p => nparts (tabF p.2)).sum = tabP b
  | [], [], _ => rfl
  | [], _ :: _, h => by cases h
  | _ :: _, [], h => by cases h
  | x :: a, y :: b, h => by
    have := zip_sum a b (by simpa using h)
    unfold tabP at this ⊢
    simp only [List.zip_cons_cons, List.map_cons, List.sum_cons]
    omega
theorem TF.tot_join (t : TF nm F S) : tot ((S.names.map (nmF nm)).foldl (fun F f => del f F) (layF nm S.next (pagesOf (tabF S.whole)) (pagesOf (tabF (lstT [S.next] S.laid))) F)) + phi S = tot F + phi { S with names := [S.next], tabs := [S.whole] } := by
  have hs := (get_layF (nm := nm) t.srt S.next (pagesOf (tabF S.whole)) (pagesOf (tabF (lstT [S.next] S.laid))) nm)
  have h1 := tot_layF t S.next t.new_file (pagesOf (tabF S.whole)) (pagesOf (tabF (lstT [S.next] S.laid)))
  have hl := t.lens
  have hm1 : ((S.names.zip S.tabs).map fun p => (nmF nm p.1, nparts (tabF p.2))).map (·.1) = S.names.map (nmF nm) := by
    rw [List.map_map]
    have : ((fun p : Str × Nat => p.1) ∘ fun p : Nat × List Wr => (nmF nm p.1, nparts (tabF p.2))) = (nmF nm) ∘ Prod.fst := rfl
    rw [this, ← List.map_map, List.map_fst_zip (by omega)]
  have hm2 : (((S.names.zip S.tabs).map fun p => (nmF nm p.1, nparts (tabF p.2))).map (·.2)).sum = tabP S.tabs := by
    rw [List.map_map]
    exact zip_sum _ _ hl
  have hnd : (S.names.map (nmF nm)).Nodup := by
    refine List.pairwise_map.2 (t.inc.imp fun h1 h2 => ?_)
    rw [nmF_inj h2] at h1
    exact Nat.lt_irrefl _ h1
  have h2 := tot_dels ((S.names.zip S.tabs).map fun p => (nmF nm p.1, nparts (tabF p.2))) hs.1 (by rw [hm1]; exact hnd) fun q hq => by
    obtain ⟨p, hp, rfl⟩ := List.mem_map.1 hq
    obtain ⟨i, hi, e⟩ := List.getElem_of_mem hp
    rw [List.length_zip] at hi
    have e1 : S.names[i]? = some p.1 := by
      rw [List.getElem?_eq_getElem (by omega), ← e, List.getElem_zip]
    have e2 : S.tabs[i]? = some p.2 := by
      rw [List.getElem?_eq_getElem (by omega), ← e, List.getElem_zip]
    have hne : p.1 ≠ S.next := fun e3 => t.new_file (by rw [← e3]; exact List.mem_of_getElem? e1)
    dsimp only
    have : mGet (layF nm S.next (pagesOf (tabF S.whole)) (pagesOf (tabF (lstT [S.next] S.laid))) F) (nmF nm p.1) = some (pagesOf (tabF p.2)) := by
      rw [(get_layF t.srt _ _ _ _).2, if_neg (nmF_ne_L nm _), if_neg (nmF_ne_D nm _), if_neg fun e => hne (nmF_inj e)]
      exact t.files i _ _ e1 e2
    rw [pgs_some this, pagesOf_len]
  rw [hm1, hm2] at h2
  rw [pagesOf_len, pagesOf_len] at h1
  have h3 : phi { S with names := [S.next], tabs := [S.whole] } = npg (logB S.recs).length + nparts (tabF S.whole) + nparts (tabF (lstT [S.next] S.laid)) := by
    unfold phi lstN tabP
    dsimp only
    rw [if_neg (by simp)]
    simp
  rw [h3]
  unfold phi
  omega
end
/-- few writes so far. -/
structure Few (u : Nat) (S : TS) : Prop where
  names : 24 * S.names.length + S.mem.length ≤ u
  all : S.tabs.flatten.length + S.mem.length ≤ u
  next : S.next ≤ 2 * u
  last : S.last ≤ u
theorem wrB_len3 (k v : Str) (g : Bool) : (wrB ⟨k, v, g⟩).length = (uintB (gB ⟨k, v, g⟩)).length + (((uintB k.size).length + k.size) + ((uintB v.size).length + v.size)) := by
  unfold wrB
  rw [List.length_append, List.length_append, textB_len, textB_len]
theorem lstT_len2 {names : List Nat} {la : Nat} (hn : names.length ≤ 90) (hs : ∀ n ∈ names, n < 1000000) (hla : la < 1000000) : nparts (tabF (lstT names la)) ≤ 2 := by
  have he : ∀ w ∈ lstE names, (wrB w).length ≤ 10 := fun w hw => by
    obtain ⟨p, hp, rfl⟩ := List.mem_map.1 hw
    have hm : p.1 ∈ names := by
      have := (List.mem_zipIdx hp).2.2
      rw [this]; exact List.getElem_mem _
    have h1 := numS_size (k := 5) (n := p.1) (hs _ hm)
    have h2 : (⟨#[UInt8.ofNat p.2]⟩ : Str).size = 1 := rfl
    rw [wrB_len3, h2]
    have h3 := uintB_len 0 (gB ⟨⟨#[UInt8.ofNat p.2]⟩, numS p.1, false⟩) (by unfold gB; simp)
    have h4 := uintB_len 0 1 (by decide)
    have h5 := uintB_len 0 (numS p.1).size (by omega)
    omega
  have hl : (wrB ⟨laidKey, numS la, false⟩).length ≤ 20 := by
    have h1 := numS_size (k := 5) (n := la) hla
    have h2 : laidKey.size = 4 := rfl
    rw [wrB_len3, h2]
    have h3 := uintB_len 0 (gB ⟨laidKey, numS la, false⟩) (by unfold gB; simp)
    have h4 := uintB_len 0 4 (by decide)
    have h5 := uintB_len 0 (numS la).size (by omega)
    omega
  have hfl : ∀ (l : List Wr), (∀ w ∈ l, (wrB w).length ≤ 10) → (l.flatMap wrB).length ≤ 10 * l.length := fun l => by
    induction l with
    | nil => intro _; simp
    | cons w l ih =>
      intro h
      have h1 := h w List.mem_cons_self
      have h2 := ih fun x hx => h x (List.mem_cons_of_mem _ hx)
      rw [List.flatMap_cons, List.length_append, List.length_cons]
      omega
  have hE := hfl _ he
  have hEl : (lstE names).length = names.length := by unfold lstE; simp
  have hp : (plainB (lstT names la)).length ≤ 930 := by
    unfold plainB
    rw [lstT_eq la names (by omega), List.flatMap_append, List.length_append, List.length_append, List.length_append, hEl]
    have h1 := uintB_len 0 (names.length + [(⟨laidKey, numS la, false⟩ : Wr)].length) (by simp; omega)
    rw [List.flatMap_cons, List.flatMap_nil, List.append_nil]
    omega
  have hsz : (⟨(plainB (lstT names la)).toArray⟩ : Str).size = (plainB (lstT names la)).length := List.size_toArray ..
  have h2 := frameB_len ⟨(plainB (lstT names la)).toArray⟩
  rw [textB_len, hsz] at h2
  have h3 := uintB_len 1 (plainB (lstT names la)).length (by show _ < 128 ^ (1 + 1); have : (128 : Nat) ^ (1 + 1) = 16384 := by decide
                                                             omega)
  have h4 : (tabF (lstT names la)).length = (frameB ⟨(plainB (lstT names la)).toArray⟩).length := rfl
  unfold nparts
  omega
theorem tabP_le : ∀ (l : List (List Wr)), (∀ T ∈ l, (∀ w ∈ T, Fit w) ∧ T.length < 1000000) → 512 * tabP l ≤ 216 * l.flatten.length + 535 * l.length
  | [], _ => by simp [tabP]
  | T :: l, h => by
    have h1 := tabP_le l fun U hU => h U (List.mem_cons_of_mem _ hU)
    obtain ⟨hf, hl⟩ := h T List.mem_cons_self
    have h2 := (tabF_len hf hl).1
    have h3 : 512 * nparts (tabF T) ≤ (tabF T).length + 511 := by unfold nparts; omega
    have h4 : tabP (T :: l) = nparts (tabF T) + tabP l := rfl
    rw [h4, List.flatten_cons, List.length_append, List.length_cons]
    omega
theorem frameB_le {s : Str} (h : s.size < 1000000000) : (frameB s).length ≤ s.size + 14 := by
  have h1 := frameB_len s
  have h2 := uintB_len10 (n := s.size) (by omega)
  rw [textB_len] at h1
  omega
theorem logB_le : ∀ (r : List (Nat × List Wr)), (∀ p ∈ r, (∀ w ∈ p.2, Fit w) ∧ p.2.length < 1000000 ∧ p.1 < 4611686018427387904) → (logB r).length ≤ 216 * (r.map (·.2)).flatten.length + 44 * r.length
  | [], _ => Nat.le_refl _
  | p :: r, h => by
    have h1 := logB_le r fun q hq => h q (List.mem_cons_of_mem _ hq)
    obtain ⟨hf, hl, hn⟩ := h p List.mem_cons_self
    have h2 := recB_size hf hl hn
    have h3 := frameB_le (s := recB p.1 p.2) (by omega)
    have h4 : logB (p :: r) = frameB (recB p.1 p.2) ++ logB r := rfl
    rw [h4, List.length_append, List.map_cons, List.flatten_cons, List.length_append, List.length_cons]
    omega
section
variable {nm : Str} {F : Fs} {S : TS} {u : Nat}
theorem TF.recs_ok (t : TF nm F S) (f : Few u S) (hu : u ≤ 100000) : ∀ p ∈ S.recs, (∀ w ∈ p.2, Fit w) ∧ p.2.length < 1000000 ∧ p.1 < 4611686018427387904 := fun p hp => by
  have h1 := f.names
  have h2 := f.last
  refine ⟨t.fit p hp, ?_, ?_⟩
  · have : p.2.length ≤ S.mem.length := by
      rw [t.mem]
      exact (List.sublist_flatten_of_mem (List.mem_map_of_mem (f := fun p : Nat × List Wr => p.2) hp)).length_le
    omega
  · have h3 : p.1 ∈ S.recs.map (·.1) := List.mem_map_of_mem (f := fun p : Nat × List Wr => p.1) hp
    rw [t.nums, List.mem_range'] at h3
    obtain ⟨i, hi, e⟩ := h3
    unfold TS.last at h2
    omega
theorem TF.log_len (t : TF nm F S) (f : Few u S) (hu : u ≤ 100000) : (logB S.recs).length ≤ 260 * u := by
  have h1 := logB_le S.recs (t.recs_ok f hu)
  rw [← t.mem] at h1
  have h2 := f.names
  have h3 := f.last
  unfold TS.last at h3
  omega
theorem TF.phi_le (t : TF nm F S) (f : Few u S) (hu : u ≤ 2000) : phi S ≤ u + 4 := by
  have h1 := t.log_len f (by omega)
  have h2 := f.names
  have h3 := f.all
  have h4 := f.next
  have h5 := f.last
  have hln := t.lens
  have h6 := tabP_le S.tabs fun T hT => ⟨(t.tab T hT).2, by
    have : T.length ≤ S.tabs.flatten.length := (List.sublist_flatten_of_mem hT).length_le
    omega⟩
  have h7 : lstN S ≤ 2 := by
    unfold lstN
    split
    · omega
    · refine lstT_len2 (by omega) (fun n hn => ?_) (by unfold TS.last at h5; omega)
      have := next_new t.inc n hn
      omega
  unfold phi npg
  omega
theorem Few.app (f : Few u S) {l : List Wr} (hl : l ≠ []) (r : Nat × List Wr) : Few (u + l.length) { S with mem := S.mem ++ l, recs := S.recs ++ [r] } := by
  have hp : 0 < l.length := List.length_pos_iff.2 hl
  have h1 := f.names
  have h2 := f.all
  have h3 := f.next
  have h4 := f.last
  refine ⟨?_, ?_, ?_, ?_⟩
  · show 24 * S.names.length + (S.mem ++ l).length ≤ _
    rw [List.length_append]; omega
  · show S.tabs.flatten.length + (S.mem ++ l).length ≤ _
    rw [List.length_append]; omega
  · show S.next ≤ _
    omega
  · unfold TS.last at h4 ⊢
    show S.laid + (S.recs ++ [r]).length ≤ _
    rw [List.length_append, List.length_singleton]; omega
theorem under_no {nm f : Str} (h2 : ¬ under nm f) : f ≠ nmL nm ∧ f ≠ nmD nm ∧ ∀ n, f ≠ nmF nm n :=
  ⟨fun e => h2 (by rw [e]; exact nmL_under nm), fun e => h2 (by rw [e]; exact nmD_under nm), fun n e => h2 (by rw [e]; exact nmF_under nm n)⟩
theorem frame_lay (hs : SrtF F) (n : Nat) (P1 P2 : List Str) {f : Str} (h1 : f ≠ nm) (h2 : ¬ under nm f) : mGet (del nm (layF nm n P1 P2 F)) f = mGet F f := by
  rw [get_del, if_neg h1, (get_layF hs n P1 P2 f).2, if_neg (under_no h2).1, if_neg (under_no h2).2.1, if_neg ((under_no h2).2.2 n)]
theorem frame_join (hs : SrtF F) (n : Nat) (P1 P2 : List Str) (l : List Nat) {f : Str} (h2 : ¬ under nm f) : mGet ((l.map (nmF nm)).foldl (fun F f => del f F) (layF nm n P1 P2 F)) f = mGet F f := by
  have hl := (get_layF (nm := nm) hs n P1 P2 f)
  have hm : f ∉ l.map (nmF nm) := fun hm => by
    obtain ⟨k, _, e⟩ := List.mem_map.1 hm
    exact (under_no h2).2.2 k e.symm
  rw [(get_dels _ hl.1 f).2, if_neg hm, hl.2, if_neg (under_no h2).1, if_neg (under_no h2).2.1, if_neg ((under_no h2).2.2 n)]
theorem TF.frame {G : Fs} (t : TF nm F S) (hs : SrtF G) (h : ∀ f, f = nm ∨ under nm f → mGet G f = mGet F f) : TF nm G S := by
  refine ⟨hs, ?_, t.nums, t.mem, t.lens, t.inc, t.tab, t.fit, fun i n T h1 h2 => ?_, fun h1 => ?_, fun h1 => ?_, fun f hf hs => ?_⟩
  · unfold pgs
    rw [h nm (.inl rfl)]
    exact t.log
  · rw [h _ (.inr (nmF_under nm n))]; exact t.files i n T h1 h2
  · rw [h _ (.inr (nmL_under nm))]; exact t.noL h1
  · rw [h _ (.inr (nmL_under nm))]; exact t.list h1
  · rw [h f (.inr hf)] at hs; exact t.only f hf hs
/-- a tree of which nothing is there. -/
theorem TF.new (hs : SrtF F) (h : ∀ f, f = nm ∨ under nm f → mGet F f = none) : TF nm F ⟨[], [], [], [], 0⟩ := by
  refine ⟨hs, ?_, rfl, rfl, rfl, List.Pairwise.nil, fun T hT => (by cases hT), fun r hr => (by cases hr), fun i n T h1 h2 => (by simp at h1), fun _ => ⟨h _ (.inr (nmL_under nm)), rfl⟩, fun h1 => absurd rfl h1, fun f hf hs => ?_⟩
  · rw [pgs_none (h nm (.inl rfl))]; rfl
  · rw [h f (.inr hf)] at hs; cases hs
theorem Few.new : Few 0 ⟨[], [], [], [], 0⟩ := ⟨Nat.le_refl _, Nat.le_refl _, Nat.le_refl _, Nat.le_refl _⟩
theorem Few.lay (f : Few u S) (h24 : 24 ≤ S.mem.length) (hn : S.next + 1 ≤ 2 * u) : Few u ⟨[], S.names ++ [S.next], S.tabs ++ [ofL S.mem], [], S.last⟩ := by
  have h1 := f.names
  have h2 := f.all
  have h4 := f.last
  have h5 := ofL_len S.mem
  refine ⟨?_, ?_, ?_, ?_⟩
  · show 24 * (S.names ++ [S.next]).length + 0 ≤ u
    rw [List.length_append, List.length_singleton]; omega
  · show (S.tabs ++ [ofL S.mem]).flatten.length + 0 ≤ u
    have : (S.tabs ++ [ofL S.mem]).flatten = S.tabs.flatten ++ ofL S.mem := by rw [List.flatten_append]; simp
    rw [this, List.length_append]; omega
  · show (match (S.names ++ [S.next]).getLast? with | none => 0 | some n => n + 1) ≤ _
    have : (S.names ++ [S.next]).getLast? = some S.next := by simp
    rw [this]; exact hn
  · exact h4
theorem Few.join (f : Few u S) (hne : 1 ≤ S.names.length) (hn : S.next + 1 ≤ 2 * u) : Few u { S with names := [S.next], tabs := [S.whole] } := by
  have h1 := f.names
  have h2 := f.all
  have h4 := f.last
  have h5 := ofL_len S.tabs.flatten
  have h6 := List.length_filter_le (fun w : Wr => !w.gone) (ofL S.tabs.flatten)
  refine ⟨?_, ?_, ?_, ?_⟩
  · show 24 * [S.next].length + S.mem.length ≤ u
    rw [List.length_singleton]; omega
  · show [S.whole].flatten.length + S.mem.length ≤ u
    have : [S.whole].flatten = S.whole := by simp
    rw [this]
    show ((ofL S.tabs.flatten).filter fun w => !w.gone).length + _ ≤ u
    omega
  · exact hn
  · exact h4
end
end Go.Ls
end

section
set_option linter.unusedVariables false
set_option linter.unusedSimpArgs false
set_option maxRecDepth 100000
namespace Go.Proofs.YtkhinnchplahlaaGreatDoor
open Go Go.Vc Go.Proofs Go.Dk Go.Kv Go.Ls Go.Cd
open Go.Pg (Quiet Nx layW partB nparts partsW partsW_len)

section
variable {g g1 g2 : Nat → Nat} {h h1 h2 : Heap} {t d : Nat} {nm : Str} {w1 w2 : Tw} {x1 x2 : D} {N : Nat → Prop}
theorem Trs.trans (a : Trs g N h t d nm w1 x1 g1 h1) (b : Trs g1 (fun q => N q ∨ g1 q ≠ 0) h1 t d nm w2 x2 g2 h2) (hg : ∀ q, g q ≠ 0 → N q) : Trs g N h t d nm w2 x2 g2 h2 := by
  have hs := a.up.size
  refine ⟨b.tr, b.dn.sub fun q hq => hq.elim (fun h => .inl (.inl h)) .inr, fun q hq => by rw [b.ext q (by omega), a.ext q hq], ?_⟩
  refine a.up.trans' b.up fun q hq h3 => ?_
  rw [a.ext q hq] at h3
  rcases h3 with h3 | h3
  · exact .inl fun h4 => h3 (.inl h4)
  · exact .inr h3
theorem Trs.keep (a : Trs g N h t d nm w1 x1 g1 h1) (k : Keep h1.size h1 h2) : Trs g N h t d nm w1 x1 g1 h2 :=
  ⟨a.tr.keep k, a.dn.keep k, a.ext, a.up.trans k.m⟩
end
open Classical in
/-- what new blocks are for. -/
noncomputable def tagA (g : Nat → Nat) (a e : Nat) (A B : Option Addr) (q : Nat) : Nat := if q < a then g q else if blk A q then 5 else if q = e ∧ blk B q then 3 else 0
section
variable {g : Nat → Nat} {a e q : Nat} {A B : Option Addr}
theorem tagA_old (h : q < a) : tagA g a e A B q = g q := if_pos h
theorem tagA_5 (h1 : a ≤ q) (h2 : blk A q) : tagA g a e A B q = 5 := by unfold tagA; rw [if_neg (by omega), if_pos h2]
theorem tagA_3 (h1 : a ≤ q) (h2 : ¬ blk A q) (h3 : q = e ∧ blk B q) : tagA g a e A B q = 3 := by unfold tagA; rw [if_neg (by omega), if_neg h2, if_pos h3]
theorem tagA_ne (h : tagA g a e A B q ≠ 0) : (q < a ∧ g q ≠ 0) ∨ blk A q ∨ (q = e ∧ blk B q) := by
  unfold tagA at h
  by_cases h1 : q < a
  · rw [if_pos h1] at h; exact .inl ⟨h1, h⟩
  · rw [if_neg h1] at h
    by_cases h2 : blk A q
    · exact .inr (.inl h2)
    · rw [if_neg h2] at h
      by_cases h3 : q = e ∧ blk B q
      · exact .inr (.inr h3)
      · rw [if_neg h3] at h; exact absurd rfl h
end
def appS (T : TS) (l : List Wr) : TS := { T with mem := T.mem ++ l, recs := T.recs ++ [(T.last + 1, l)] }
theorem appS_last (T : TS) (l : List Wr) : (appS T l).last = T.last + 1 := by
  unfold TS.last appS
  dsimp only
  rw [List.length_append, List.length_singleton]; omega
theorem appS_tw (T : TS) (l : List Wr) : tw (appS T l) = ⟨logB T.recs ++ frameB (recB (T.last + 1) l), T.mem ++ l, T.names, T.tabs, T.next, T.last + 1, T.laid⟩ := by
  unfold tw
  rw [appS_last]
  unfold appS
  dsimp only
  rw [logB_snoc]
  rfl
/-- what writes that were done leave. -/
structure ApS (T : TS) (x : D) (l : List Wr) (u : Nat) (nm : Str) (T' : TS) (x' : D) : Prop where
  tf : TF nm x'.now T'
  q : Quiet x'
  room : x'.room = x.room
  pairs : T'.pairs = doneAll T.pairs l
  few : Few (u + l.length) T'
  oth : ∀ f, f ≠ nm → ¬ under nm f → mGet x'.now f = mGet x.now f
  waits : x'.waits.length ≤ x.waits.length + 102000
  tot : tot x'.now + phi T = tot x.now + phi T'
  tabs : 2000 ≤ Dk.free x → T.tabs.length ≤ 3 → T'.tabs.length ≤ 3
  small : T.mem.length + l.length < 24 → T.tabs.length < 4 → x'.safe = x.safe ∧ x'.waits.length ≤ x.waits.length + 1000 ∧ T' = appS T l ∧ x'.now = put nm (lpages (logB T.recs ++ frameB (recB (T.last + 1) l))) x.now
theorem layW_safe (n : Str) : ∀ (W : Pg.Rw) {x : D}, Quiet x → (layW n W x).2.safe = x.safe
  | [], x, _ => rfl
  | p :: W, x, q => by
    have e : layW n (p :: W) x = if (write x n p.1 p.2).1 ≠ 0 then write x n p.1 p.2 else layW n W (write x n p.1 p.2).2 := rfl
    have hw : (write x n p.1 p.2).2.safe = x.safe ∧ Quiet (write x n p.1 p.2).2 := by
      unfold write
      by_cases h1 : x.down = true
      · rw [q.down] at h1; cases h1
      rw [if_neg h1]
      by_cases h2 : 512 < p.2.size
      · rw [if_pos h2]; exact ⟨rfl, q⟩
      rw [if_neg h2]
      by_cases h3 : p.1 < 0 ∨ ((pgs x.now n).length : Int) < p.1
      · rw [if_pos h3]; exact ⟨rfl, q⟩
      rw [if_neg h3]
      by_cases h4 : p.1 = (pgs x.now n).length ∧ Dk.free x < 1
      · rw [if_pos h4]; exact ⟨rfl, q⟩
      rw [if_neg h4]
      have hg : goes x = false := Pg.goes_quiet q
      dsimp only
      rw [if_neg (by rw [hg]; decide)]
      exact ⟨rfl, q.down, by show x.fuse - 1 = 0; rw [q.fuse]⟩
    rw [e]
    split
    · exact hw.1
    · rw [layW_safe n W hw.2]; exact hw.1
theorem long_fit {l : List Wr} (h : long l = false) : (∀ w ∈ l, Fit w) ∧ l.length ≤ 1024 := by
  have h1 : (l.any (fun w => decide (48 < w.key.size) || decide (160 < w.val.size)) || decide (1024 < l.length)) = false := h
  rw [Bool.or_eq_false_iff] at h1
  refine ⟨fun w hw => ?_, by have := of_decide_eq_false h1.2; omega⟩
  have := List.any_eq_false.1 h1.1 w hw
  simp at this
  exact ⟨by omega, by omega⟩
section
variable {g : Nat → Nat} {h h' : Heap} {t d n c u : Nat} {nm : Str} {A : Option Addr} {N : Nat → Prop} {x : D} {l : List Wr}
set_option maxHeartbeats 4000000 in
theorem lapply_spec {T : TS} (p : TrAt g h t d nm (tw T)) (hnm : nm.size ≤ 1000000) (tab : TabH h) (gbN : N gb ∧ g gb = 0) (dn : DN N d x h) (gN : ∀ q, g q ≠ 0 → N q) (tf : TF nm x.now T) (hq : Quiet x)
    (fw : Few u T) (hu : long l = false → u + n ≤ 1100) (hs : Sl WrE h A n l) (hc : n ≤ c) (hn : n ≤ 9223372036854775807) (hA : n ≠ 0 → ∀ q, blk A q → N q ∧ g q = 0) (hww : x.waits.length ≤ 89000000) (hroom : x.room ≤ 100000000) :
    HC Tryz.prog 13 #[.pointer (some ⟨t, 0, none⟩), .slice A n c] h fun vv h' =>
      (long l = true ∧ vv = .int .i64 3 ∧ Keep h.size h h') ∨ (long l = false ∧ l = [] ∧ vv = .int .i64 0 ∧ Keep h.size h h') ∨
      (long l = false ∧ l ≠ [] ∧ vv = .int .i64 7 ∧ Keep h.size h h' ∧ ¬ 2000 ≤ Dk.free x ∧ Dk.free x < ((npg (logB T.recs ++ frameB (recB (T.last + 1) l)).length : Nat) : Int) - npg (logB T.recs).length) ∨
      (long l = false ∧ l ≠ [] ∧ vv = .int .i64 0 ∧ ∃ g' x' T', Trs g N h t d nm (tw T') x' g' h' ∧ ApS T x l u nm T' x') := by
  obtain ⟨lg, B, bn, bc, v, pp⟩ := p
  have p := pp.core
  have hl := hs.1
  have htot := dn.ok.tot
  have hfr0 : 0 ≤ Dk.free x := by unfold Dk.free; omega
  have hfle : Dk.free x ≤ 100000000 := by unfold Dk.free; omega
  refine HC_of_vc (args := [.pointer (some ⟨t, 0, none⟩), .slice A n c]) (base := 73) (cuts := []) (bigs := []) kM Tryz.func13 ?_
  rw [vcLmApply]
  have hlong : long l = (l.any (fun w => decide (48 < w.key.size) || decide (160 < w.val.size)) || decide (1024 < l.length)) := rfl
  refine ⟨_, reads_eql_nil uTr, br_intro (fun e => by cases e) fun _ => br_intro (fun e => ?_) fun e => .inl ⟨?_, rfl, Keep.refl _ _⟩⟩
  rotate_left
  · have hn2 : (n : Int) > 1024 := by
      by_cases h : (n : Int) > 1024
      · exact h
      · simp [h] at e
    rw [hlong, decide_eq_true (by omega : 1024 < l.length)]; simp
  have hn2 : ¬ (n : Int) > 1024 := by
    by_cases h : (n : Int) > 1024
    · simp [h] at e
    · exact h
  have e2 : decide (1024 < l.length) = false := decide_eq_false (by omega)
  rw [e2, Bool.or_false] at hlong
  refine (contW_spec (p := fun w => decide (48 < w.key.size) || decide (160 < w.val.size)) hs (by omega) (by kernel_rfl) lmlong_spec).mono ?_
  rintro vv h2 ⟨k2, rfl⟩
  rw [← hlong]
  refine ⟨_, rfl, br_intro (fun e3 => .inl ⟨e3, rfl, k2⟩) fun e3 => br_intro (fun e4 => .inr (.inl ⟨e3, ?_, rfl, k2⟩)) fun e4 => ?_⟩
  · have : n = 0 := by
      have : ((n : Nat) : Int) = 0 := by simpa using e4
      omega
    exact List.eq_nil_of_length_eq_zero (by omega)
  have hn0 : n ≠ 0 := by
    intro h0
    rw [h0] at e4; simp at e4
  have hlne : l ≠ [] := fun h0 => hn0 (by rw [← hl, h0]; rfl)
  obtain ⟨hfit, hl1024⟩ := long_fit e3
  have hu := hu e3
  have hwl := fw.last
  have hwn := fw.next
  have p2 := p.keep k2
  have tab2 := tab.updM k2.m (S := fun _ => False) id
  have hla2 : IntKind.i64.wrap ((((tw T).la : Nat) : Int) + (1 : Int)) = ((T.last + 1 : Nat) : Int) := by
    show IntKind.i64.wrap ((T.last : Int) + 1) = _
    rw [wrap_i64 (by omega) (by omega)]; rfl
  refine ⟨fun H => Keep h2.size h2 H, Keep.refl _ _, _, rfl, _, fun H kH => (p2.keep kH).rl, _, rfl, _, p2.rla, ?_⟩
  rw [hla2]
  refine (bytes_spec (m := T.last + 1) (hs.keep k2) (by omega) hfit (by omega)).mono ?_
  rintro vv h11 ⟨k11, rfl⟩
  refine ⟨_, rfl, k11, svc_buildSlice (bs_s (recB (T.last + 1) l)) ⟨_, _, _, rfl, ?_⟩⟩
  have kp := keep_push h11 (.cells ([Value.string (recB (T.last + 1) l)]).toArray 9 (0, 0))
  have sR : Sl StrE _ (some ⟨h11.size, 0, none⟩) 1 [recB (T.last + 1) l] := (own_box (E := StrE) (n := 1) (xs := [recB (T.last + 1) l]) rfl (Nat.le_refl h11.size) (push_at h11 (.cells ([Value.string (recB (T.last + 1) l)]).toArray 9 (0, 0)))).sl
  generalize h11.push (.cells ([Value.string (recB (T.last + 1) l)]).toArray 9 (0, 0)) = h14 at kp sR
  have k214 := k11.trans (kp.mono k11.size)
  have k014 := k2.trans (k214.mono k2.size)
  have z014 := k014.size
  have hrs := recB_size (n := T.last + 1) hfit (by omega) (by omega)
  have hfs := frameB_le (s := recB (T.last + 1) l) (by omega)
  have hll := tf.log_len fw (by omega)
  have nlg : N lg := gN lg (by rw [pp.gl]; decide)
  refine ⟨k214, (lappend_spec (pp.log.keep k014) (dn.keep k014) nlg (fun h0 q hq => gN q (by rw [pp.gA h0 q hq]; decide)) sR hq tf.log (by omega) (by show (logB T.recs).length + _ ≤ _; omega) (by omega) ⟨by omega, by omega⟩).mono ?_⟩
  rintro vv h19 hv
  have hpos : 0 < (frameB (recB (T.last + 1) l)).length := by have := frameB_len (recB (T.last + 1) l); omega
  have fw1 : Few (u + l.length) (appS T l) := fw.app hlne _
  have tf1 : TF nm (put nm (lpages (logB T.recs ++ frameB (recB (T.last + 1) l))) x.now) (appS T l) := tf.append hfit
  rcases hv with ⟨rfl, hfr, k19⟩ | ⟨rfl, hfr, B', bn', bc', l19, d19, hB', u19⟩
  · -- no room
    refine ⟨_, rfl, br_intro (fun _ => .inr (.inr (.inl ⟨e3, hlne, rfl, k014.trans (k19.mono z014), fun hb => ?_, hfr⟩))) fun e => by cases e⟩
    have hphi := tf1.phi_le fw1 (by omega)
    have h5 : npg (logB T.recs ++ frameB (recB (T.last + 1) l)).length ≤ phi (appS T l) := by
      unfold phi appS
      dsimp only
      rw [logB_snoc]
      omega
    have hno : Dk.free x < ((npg (logB T.recs ++ frameB (recB (T.last + 1) l)).length : Nat) : Int) - npg (logB T.recs).length := hfr
    omega
  have hfr : ((npg (logB T.recs ++ frameB (recB (T.last + 1) l)).length : Nat) : Int) - npg (logB T.recs).length ≤ Dk.free x := hfr
  obtain ⟨hW0, kN, hNx⟩ := log_app (c := frameB (recB (T.last + 1) l)) hq dn.ok.now tf.log (by intro h; rw [h] at hpos; simp at hpos) hfr
  have hsafe := layW_safe nm (lgW (logB T.recs ++ frameB (recB (T.last + 1) l)) ((logB T.recs).length / 510)) hq
  have hwW := Pg.layW_waits nm (lgW (logB T.recs ++ frameB (recB (T.last + 1) l)) ((logB T.recs).length / 510)) x
  have hWl : (lgW (logB T.recs ++ frameB (recB (T.last + 1) l)) ((logB T.recs).length / 510)).length ≤ 1000 := by
    unfold lgW
    rw [List.length_map, List.length_range', List.length_append]
    unfold npg
    omega
  have d19 : DN (fun q => N q ∨ blk B' q) d (layW nm (lgW (logB T.recs ++ frameB (recB (T.last + 1) l)) ((logB T.recs).length / 510)) x).2 h19 := d19
  have l19 : LogAt h19 lg d nm B' bn' bc' (logB T.recs ++ frameB (recB (T.last + 1) l)) := l19
  generalize (layW nm (lgW (logB T.recs ++ frameB (recB (T.last + 1) l)) ((logB T.recs).length / 510)) x).2 = x1 at d19 hNx hwW hsafe
  have u019 : UpdM (fun q => ¬ N q ∨ q = lg) h h19 := k014.m.trans u19
  have hs19 : ∀ {q k : Nat}, g q = k → k ≠ 0 → k ≠ 2 → ¬ (¬ N q ∨ q = lg) := fun {q k} e1 e2 e3 e4 => e4.elim (fun h => h (gN q (by rw [e1]; exact e2))) fun h => by rw [h, pp.gl] at e1; exact e3 e1.symm
  have c19 : TrC g h19 t d nm (some ⟨lg, 0, none⟩) v (tw T) := by
    refine ⟨u019.cells p.box (hs19 p.gt (by decide) (by decide)), p.mem.updM u019 fun q hq => hs19 (p.gm q hq) (by decide) (by decide), p.nms.updM u019 fun q hq => hs19 (p.gn q hq) (by decide) (by decide), p.tbl.updM u019 fun q hq => hs19 (p.gT q hq) (by decide) (by decide),
      p.tbs.updM u019 fun q hq => hs19 hq (by decide) (by decide), p.gt, p.gm, p.gn, p.gT, fun q hq => Nat.lt_of_lt_of_le (p.lt q hq) u019.size⟩
  have z19 := u19.size
  have a19 : Sl WrE h19 A n l := (hs.keep k014).updM u19 fun h0 q hq h5 => by
    obtain ⟨h6, h7⟩ := hA h0 q hq
    rcases h5 with h5 | h5
    · exact h5 h6
    · rw [h5, pp.gl] at h7; cases h7
  have hmm : (tw T).mem = T.mem := rfl
  have hkm := p.mem.1
  rw [hmm] at hkm
  have hwm := fw.all
  refine ⟨_, rfl, br_intro (fun e => by cases e) fun _ => ⟨fun H => H[t]? = some (trBox d nm (some ⟨lg, 0, none⟩) v (tw T)), c19.box, _, rfl, _, _, _, c19.rm, svc_append app_wr c19.mem (Nat.zero_le _) a19 (by show (4 * (v.km + n) + 192) * 40 ≤ 2 ^ 48; omega) fun a28 k30 h27 o27 u27 b27 => ⟨_, _, _, rfl, ?_⟩⟩⟩
  have ntM : ¬ blk v.am t := fun hq => by have := p.gm _ hq; rw [p.gt] at this; cases this
  have b27t := u27.at c19.box ntM
  have z27 := u27.size
  refine ⟨b27t, _, rfl, _, fun H bH => reads_load kI (cell_cells bH rfl), _, rfl, ?_⟩
  refine svc_store_box (k := 3) zWs b27t (by simp) rfl (one_slice _ _ _) fun h36 z36 b36 u36 => ⟨_, rfl, ?_⟩
  rw [hla2]
  refine svc_store_box (k := 7) kzI b36 (by simp) rfl (one_int _ _) fun h39 z39 b39 u39 => ⟨_, rfl, ?_⟩
  have ut : Upd (fun q => q = t) h27 h39 := u36.trans u39
  have b39' : h39[t]? = some (trBox d nm (some ⟨lg, 0, none⟩) ⟨a28, v.km + n, k30, v.an, v.kn, v.cn, v.aT, v.kT, v.cT, v.ts⟩ (tw (appS T l))) := by rw [b39, appS_tw]; rfl
  have hltT := p.lt
  have htlt := p.lt t (by rw [p.gt]; decide)
  have hllt := p.lt lg (by rw [pp.gl]; decide)
  have zut := ut.size
  have tnN : N t := gN t (by rw [p.gt]; decide)
  obtain ⟨g1, hg1⟩ : ∃ g1, g1 = tagA g h.size h19.size B' a28 := ⟨_, rfl⟩
  have gold : ∀ {q}, q < h.size → g1 q = g q := fun h1 => by rw [hg1]; exact tagA_old h1
  have gB : ∀ {q}, blk B' q → g1 q = 5 := fun h1 => by rw [hg1]; exact tagA_5 (by have := (hB' _ h1).1; omega) h1
  have g3 : ∀ {q}, q = h19.size → blk a28 q → g1 q = 3 := fun h1 h2 => by rw [hg1]; exact tagA_3 (by omega) (fun h3 => by have := (hB' _ h3).2; omega) ⟨h1, h2⟩
  have gne : ∀ {q}, g1 q ≠ 0 → (q < h.size ∧ g q ≠ 0) ∨ blk B' q ∨ (q = h19.size ∧ blk a28 q) := fun h1 => by rw [hg1] at h1; exact tagA_ne h1
  have u2739 : UpdM (fun q => g q = 3 ∨ q = t) h19 h39 := ((u27.mono (T := fun q => g q = 3 ∨ q = t) fun q hq => .inl (p.gm q hq)).m).trans (ut.mono fun q e => .inr e).m
  have n39 : ∀ {q k : Nat}, g q = k → k ≠ 1 → k ≠ 3 → ¬ (g q = 3 ∨ q = t) := fun {q k} e1 e2 e3 e4 => e4.elim (fun h => by rw [h] at e1; exact e3 e1.symm) fun h => by rw [h, p.gt] at e1; exact e2 e1.symm
  have P39 : TrP g1 h39 t d nm lg B' bn' bc' ⟨a28, v.km + n, k30, v.an, v.kn, v.cn, v.aT, v.kT, v.cT, v.ts⟩ (tw (appS T l)) := by
    refine ⟨⟨b39', ?_, ?_, ?_, ?_, ?_, fun q hq => ?_, fun q hq => ?_, fun q hq => ?_, fun q hq => ?_⟩, ?_, ?_, fun h0 q hq => gB hq⟩
    · rw [appS_tw]
      refine o27.upd ut fun q hq e => ?_
      rcases b27 q hq with h5 | h5
      · rw [e] at h5; exact ntM h5
      · omega
    · rw [appS_tw]
      exact c19.nms.updM u2739 fun q hq => n39 (p.gn q hq) (by decide) (by decide)
    · exact c19.tbl.updM u2739 fun q hq => n39 (p.gT q hq) (by decide) (by decide)
    · rw [appS_tw]
      exact (c19.tbs.updM u2739 fun q hq => n39 hq (by decide) (by decide)).mono fun q hq => by rw [gold (hltT q (by rw [hq]; decide))]; exact hq
    · rw [gold htlt]; exact p.gt
    · rcases b27 q hq with h5 | h5
      · rw [gold (hltT q (by rw [p.gm q h5]; decide))]; exact p.gm q h5
      · exact g3 h5 hq
    · rw [gold (hltT q (by rw [p.gn q hq]; decide))]; exact p.gn q hq
    · rw [gold (hltT q (by rw [p.gT q hq]; decide))]; exact p.gT q hq
    · rcases gne hq with h5 | h5 | h5
      · omega
      · have := hB' q h5; omega
      · have := o27.block q h5.2; omega
    · rw [appS_tw]
      refine l19.updM u2739 (n39 pp.gl (by decide) (by decide)) fun h0 q hq h5 => ?_
      have h6 := (hB' q hq).1
      rcases h5 with h5 | h5
      · have := hltT q (by rw [h5]; decide); omega
      · omega
    · rw [gold hllt]; exact pp.gl
  have dn39 : DN (fun q => N q ∨ g1 q ≠ 0) d x1 h39 := by
    refine d19.own u2739 (fun q _ h5 => h5.elim (fun h => .inl (gN q (by rw [h]; decide))) fun h => .inl (by rw [h]; exact tnN)) fun q hq => ?_
    rcases hq with hq | hq
    · exact ⟨.inl (.inl hq), by have := dn.lt hq; omega⟩
    · rcases gne hq with h5 | h5 | h5
      · exact ⟨.inl (.inl (gN q h5.2)), by omega⟩
      · exact ⟨.inl (.inr h5), by have := hB' q h5; omega⟩
      · exact ⟨.inr (by omega), by have := o27.block q h5.2; omega⟩
  have tr39 : Trs g N h t d nm (tw (appS T l)) x1 g1 h39 := by
    refine ⟨⟨lg, B', bn', bc', _, P39⟩, dn39, fun q hq => gold hq, ?_⟩
    refine (u019.mono fun q h5 => ?_).trans (u2739.mono fun q h5 => ?_)
    · exact h5.imp id fun e => .inr (.inl (by rw [e]; exact pp.gl))
    · rcases h5 with h5 | h5
      · exact .inr (.inr (.inr (.inl h5)))
      · exact .inr (.inl (by rw [h5]; exact p.gt))
  have hgbl : gb < h.size := dn.lt gbN.1
  have ap1 : ApS T x l u nm (appS T l) x1 := by
    refine ⟨by rw [hNx.now]; exact tf1, hNx.q, hNx.room, T.append_pairs l _, fw1, fun f h5 _ => by rw [hNx.now, get_put dn.ok.now, if_neg h5], by omega, by rw [hNx.now]; exact tf.tot_append l, fun _ h5 => h5, fun _ _ => ⟨hsafe, by omega, rfl, hNx.now⟩⟩
  have hNx1 := hNx.room
  -- a step more
  have gbT : ∀ {w' : Tw} {x' : D} {g' : Nat → Nat} {h' : Heap}, Trs g N h t d nm w' x' g' h' → ((N gb ∨ g' gb ≠ 0) ∧ g' gb = 0) ∧ TabH h' := fun tr => by
    refine ⟨⟨.inl gbN.1, by rw [tr.ext gb hgbl]; exact gbN.2⟩, tab.updM tr.up fun h5 => ?_⟩
    rw [gbN.2] at h5
    rcases h5 with h5 | h5 | h5 | h5 | h5
    · exact h5 gbN.1
    · cases h5
    · cases h5
    · cases h5
    · cases h5
  have frI : ∀ {T' : TS} {x' : D} {w' : Tw} {g' : Nat → Nat} {h' : Heap}, ApS T x l u nm T' x' → Trs g N h t d nm w' x' g' h' → 0 ≤ Dk.free x' ∧ x'.room ≤ 100000000 := fun ap tr => by
    have h5 := tr.dn.ok.tot
    have h6 := ap.room
    exact ⟨by unfold Dk.free; omega, by omega⟩
  have fin : ∀ {T2 : TS} {x2 : D} {g2 : Nat → Nat} {h2 : Heap}, Trs g N h t d nm (tw T2) x2 g2 h2 → TF nm x2.now T2 → Quiet x2 → x2.room = x.room → T2.pairs = doneAll T.pairs l → Few (u + l.length) T2 → T2.next + 1 ≤ 2 * (u + l.length) → (∀ f, f ≠ nm → ¬ under nm f → mGet x2.now f = mGet x.now f) → x2.waits.length ≤ x.waits.length + 51500 → tot x2.now + phi T = tot x.now + phi T2 → (T.tabs.length ≤ 3 → T2.tabs.length ≤ 4) → (T.mem.length + l.length < 24 → T.tabs.length < 4 → T2.tabs.length < 4 ∧ x2.safe = x.safe ∧ x2.waits.length ≤ x.waits.length + 1000 ∧ T2 = appS T l ∧ x2.now = put nm (lpages (logB T.recs ++ frameB (recB (T.last + 1) l))) x.now) →
      ∃ (p54 : Addr), some (Addr.mk t (0 : Nat) none) = some p54 ∧ ∃ (a55 : Option Addr), ∃ (k56 : Nat), ∃ (k57 : Nat), Reads Tryz.prog (Instr.loadAt 80 (Value.pointer (some (p54.add (5 : Nat))))) h2 (Value.slice a55 k56 k57) ∧
        br (decide ((↑k56 : Int) ≥ (4 : Int)))
          (HC Tryz.prog 44 (Array.mk [Value.pointer (some (Addr.mk t (0 : Nat) none))]) h2 fun (v58 : Value) (h59 : Heap) => ∃ (n60 : Int), v58 = Value.int IntKind.i64 n60 ∧
            ((long l = true ∧ Value.int IntKind.i64 n60 = .int .i64 3 ∧ Keep h.size h h59) ∨ (long l = false ∧ l = [] ∧ Value.int IntKind.i64 n60 = .int .i64 0 ∧ Keep h.size h h59) ∨
              (long l = false ∧ l ≠ [] ∧ Value.int IntKind.i64 n60 = .int .i64 7 ∧ Keep h.size h h59 ∧ ¬ 2000 ≤ Dk.free x ∧ Dk.free x < ((npg (logB T.recs ++ frameB (recB (T.last + 1) l)).length : Nat) : Int) - npg (logB T.recs).length) ∨
              (long l = false ∧ l ≠ [] ∧ Value.int IntKind.i64 n60 = .int .i64 0 ∧ ∃ g' x' T', Trs g N h t d nm (tw T') x' g' h59 ∧ ApS T x l u nm T' x')))
          ((long l = true ∧ Value.int IntKind.i64 0 = .int .i64 3 ∧ Keep h.size h h2) ∨ (long l = false ∧ l = [] ∧ Value.int IntKind.i64 0 = .int .i64 0 ∧ Keep h.size h h2) ∨
              (long l = false ∧ l ≠ [] ∧ Value.int IntKind.i64 0 = .int .i64 7 ∧ Keep h.size h h2 ∧ ¬ 2000 ≤ Dk.free x ∧ Dk.free x < ((npg (logB T.recs ++ frameB (recB (T.last + 1) l)).length : Nat) : Int) - npg (logB T.recs).length) ∨
              (long l = false ∧ l ≠ [] ∧ Value.int IntKind.i64 0 = .int .i64 0 ∧ ∃ g' x' T', Trs g N h t d nm (tw T') x' g' h2 ∧ ApS T x l u nm T' x')) := by
    intro T2 x2 g2 h2 tr tf2 q2 r2 pr2 fw2 nx2 ot2 w2 to2 tb2 sm2
    obtain ⟨lg2, B2, bn2, bc2, v2, P2⟩ := tr.tr
    have hTl : v2.kT = T2.tabs.length := by
      have h5 := P2.core.tbl.1
      have h6 : v2.ts.length = T2.tabs.length := P2.core.tbs.1
      omega
    have fall := fw2.all
    have fnm := fw2.names
    have fnx := fw2.next
    have fla := fw2.last
    have hns := next_new tf2.inc
    have htot2 := tr.dn.ok.tot
    refine ⟨_, rfl, _, _, _, P2.core.rt, br_intro (fun e5 => ?_) fun e5 => .inr (.inr (.inr ⟨e3, hlne, rfl, g2, x2, T2, tr, ⟨tf2, q2, r2, pr2, fw2, ot2, by omega, to2, fun _ h5 => ?_, fun h5 h6 => (sm2 h5 h6).2⟩⟩))⟩
    · have e5 := of_decide_eq_true e5
      have h7 : T2.laid < 1000000 := by unfold TS.last at fla; omega
      have h8 : nparts (tabF (lstT [T2.next] T2.laid)) ≤ 2 := lstT_len2 (by simp) (fun n hn => by rw [List.mem_singleton.1 hn]; omega) h7
      refine (join_spec tr.tr hnm (gbT tr).2 (gbT tr).1 tr.dn (fun q hq => .inr hq) tf2 q2 (by omega) (by omega) (by omega) h7 h8 (by omega) (by omega) (by unfold Dk.free; omega)).mono ?_
      rintro vv h59 ⟨rfl, hv⟩
      refine ⟨_, rfl, .inr (.inr (.inr ⟨e3, hlne, rfl, ?_⟩))⟩
      rcases hv with ⟨hnr, k59⟩ | ⟨hr, g3, x3, tr3, q3, r3, now3, w3⟩
      · refine ⟨g2, x2, T2, tr.keep k59, ⟨tf2, q2, r2, pr2, fw2, ot2, by omega, to2, fun hb h5 => ?_, fun h5 h6 => (sm2 h5 h6).2⟩⟩
        -- there was room
        have h6 := tb2 h5
        have hphi := tf2.phi_le fw2 (by omega)
        have hwf : ∀ w ∈ T2.whole, Fit w := fun w hw => ofL_fit (fun w hw => by
          obtain ⟨U, hU, hw⟩ := List.mem_flatten.1 hw
          exact (tf2.tab U hU).2 w hw) w (List.mem_filter.1 hw).1
        have hwl : T2.whole.length ≤ T2.tabs.flatten.length := by
          have h1 := ofL_len T2.tabs.flatten
          have h2 := List.length_filter_le (fun w : Wr => !w.gone) (ofL T2.tabs.flatten)
          show ((ofL T2.tabs.flatten).filter fun w => !w.gone).length ≤ _
          omega
        have htl := tabF_len hwf (by omega)
        unfold Dk.free at hnr hb
        omega
      · have hw : Tab T2.whole := ⟨tab_filter (ofL_tab _) _, fun w hw => (ofL_tab _).2 w (List.mem_filter.1 hw).1⟩
        refine ⟨g3, x3, joinS T2, tr.trans tr3 gN, ⟨by rw [now3]; exact tf2.join hw, q3, by rw [r3, r2], by rw [← pr2]; exact T2.join_pairs, fw2.join (by have := tf2.lens; omega) nx2, fun f h5 h6 => ?_, by omega, ?_, fun _ _ => by show [T2.whole].length ≤ 3; simp, fun h5 h6 => ?_⟩⟩
        · rw [now3, frame_join tr.dn.ok.now _ _ _ _ h6]; exact ot2 f h5 h6
        · have h7 := tf2.tot_join
          have h8 : x3.now = (T2.names.map (nmF nm)).foldl (fun F g => del g F) (layF nm T2.next (pagesOf (tabF T2.whole)) (pagesOf (tabF (lstT [T2.next] T2.laid))) x2.now) := now3
          rw [← h8] at h7
          show tot x3.now + phi T = tot x.now + phi { T2 with names := [T2.next], tabs := [T2.whole] }
          omega
        · have := (sm2 h5 h6).1
          omega
    · have e5 := of_decide_eq_false e5
      omega
  -- laid down?
  have hm39 : v.km + n = (appS T l).mem.length := by
    show _ = (T.mem ++ l).length
    rw [List.length_append]; omega
  have nx1 : (appS T l).next + 2 ≤ 2 * (u + l.length) := by
    have h5 : (appS T l).next = T.next := rfl
    have h6 : 0 < l.length := List.length_pos_iff.2 hlne
    omega
  refine ⟨_, _, _, P39.core.rm, br_intro (fun e5 => ?_) fun e5 => ?_⟩
  · have e5 : ((v.km + n : Nat) : Int) ≥ 24 := of_decide_eq_true e5
    have h24 : 24 ≤ (appS T l).mem.length := by omega
    have fall := fw1.all
    have fnm := fw1.names
    have fla := fw1.last
    have hns := next_new tf1.inc
    have hlp := lstT_len2 (names := (appS T l).names ++ [(appS T l).next]) (la := (appS T l).last) (by rw [List.length_append, List.length_singleton]; omega) (fun n hn => by
      rcases List.mem_append.1 hn with hn | hn
      · have := hns n hn; omega
      · rw [List.mem_singleton.1 hn]; omega) (by omega)
    have tfx : TF nm x1.now (appS T l) := ap1.tf
    refine (lay_spec ⟨lg, B', bn', bc', _, P39⟩ hnm (gbT tr39).2 (gbT tr39).1 dn39 (fun q hq => .inr hq) tfx ap1.q (by omega) (by omega) (by omega) (by omega) hlp (by omega) (frI ap1 tr39).2 (frI ap1 tr39).1).mono ?_
    rintro vv h45 ⟨rfl, hv⟩
    refine ⟨_, rfl, br_intro (fun e => by simp at e) fun _ => ?_⟩
    rcases hv with ⟨_, k45⟩ | ⟨_, g2, x2, tr2, q2, r2, now2, w2⟩
    · exact fin (tr39.keep k45) ap1.tf ap1.q ap1.room ap1.pairs fw1 (by omega) ap1.oth (by omega) ap1.tot (fun h5 => by have h6 : (appS T l).tabs.length = T.tabs.length := rfl; omega) fun h5 _ => by have h6 : (appS T l).mem.length = T.mem.length + l.length := List.length_append; omega
    · have hln : (laidS (appS T l)).next = (appS T l).next + 1 := laid_next _
      refine fin (tr39.trans tr2 gN) (by rw [now2]; exact tfx.lay) q2 (by rw [r2]; exact ap1.room) (by rw [← ap1.pairs]; exact (appS T l).lay_pairs) (fw1.lay h24 (by omega)) (by omega) (fun f h5 h6 => ?_) (by omega) ?_ (fun h5 => ?_) fun h5 _ => by have h6 : (appS T l).mem.length = T.mem.length + l.length := List.length_append; omega
      · rw [now2, frame_lay dn39.ok.now _ _ _ h5 h6]; exact ap1.oth f h5 h6
      · have h7 := tfx.tot_lay
        have h8 : x2.now = del nm (layF nm (appS T l).next (pagesOf (tabF (ofL (appS T l).mem))) (pagesOf (tabF (lstT ((appS T l).names ++ [(appS T l).next]) (appS T l).last))) x1.now) := now2
        rw [← h8] at h7
        have h9 := ap1.tot
        show tot x2.now + phi T = tot x.now + phi ⟨[], (appS T l).names ++ [(appS T l).next], (appS T l).tabs ++ [ofL (appS T l).mem], [], (appS T l).last⟩
        omega
      · show (T.tabs ++ [ofL (appS T l).mem]).length ≤ 4
        rw [List.length_append, List.length_singleton]; omega
  · exact fin tr39 ap1.tf ap1.q ap1.room ap1.pairs fw1 (by omega) ap1.oth (by omega) ap1.tot (fun h5 => by have h6 : (appS T l).tabs.length = T.tabs.length := rfl; omega) fun h5 h6 => ⟨h6, hsafe, by omega, rfl, hNx.now⟩
end
end Go.Proofs.YtkhinnchplahlaaGreatDoor
end

section
set_option linter.unusedVariables false
set_option linter.unusedSimpArgs false
set_option maxRecDepth 100000
namespace Go.Proofs.YtkhinnchplahlaaGreatDoor
open Go Go.Vc Go.Proofs Go.Dk Go.Kv Go.Ls Go.Cd
open Go.Pg (Quiet Nx layW partB nparts partsW partsW_len)

theorem reads_neq_nilI {P : Program} {t : TypeId} {x : Operand} {h : Heap} (ht : P.underlying t = some (.interface (P.methodsAt t))) : Reads P (eqSem .neq t x (Operand.const Value.nilIface) .nilIface .nilIface) h (.bool false) :=
  ⟨fun w _ => by simp [eqSem, eqGuard, run_neq_nil_nil w t ht]⟩
theorem rIn1 {n : Nat} (h1 : 1 ≤ n) (h2 : n ≤ 1125899906842624) (r : List UInt8) : rIn 1 1125899906842624 (some (uintB (2 * n) ++ r)) = ((n : Int), some r) := by
  unfold rIn
  rw [rInt_uintB (by omega)]
  dsimp only
  rw [if_neg (by omega)]
set_option maxHeartbeats 2000000 in
theorem writes_spec {h : Heap} {m : Nat} {l : List Wr} (hm1 : 1 ≤ m) (hm : m ≤ 1000000) (hw : ∀ w ∈ l, Fit w) (hl : l.length ≤ 100000) :
    HC Tryz.prog 38 #[.string (recB m l)] h fun v h' => Keep h.size h h' ∧ ∃ a k c, v = .tuple #[.int .i64 m, .slice a k c, .bool true] ∧ Vc.Own WrE 42 h.size h' a k c l := by
  have hrs := recB_size (n := m) hw (by omega) (by omega)
  have hpl := plainB_len hw (by omega)
  have hsz : (⟨(plainB l).toArray⟩ : ByteArray).size = (plainB l).length := List.size_toArray ..
  refine HC_of_vc (args := [.string (recB m l)]) (base := 54) (cuts := []) (bigs := []) kM Tryz.func38 ?_
  rw [vcLmWrites]
  refine svc_bytes uS uBs' uU8' fun a1 c1 h1 k1 z1 s1 hc1 b1 => ⟨_, _, _, rfl, (cread_spec s1 (by omega)).mono ?_⟩
  rintro v h6 ⟨k6, r, rfl, hr6, rd6⟩
  have hb : bytesL (recB m l) = uintB (2 * m) ++ textB ⟨(plainB l).toArray⟩ := rfl
  rw [hb] at rd6
  have e1 := rIn1 hm1 (by omega) (textB ⟨(plainB l).toArray⟩)
  refine ⟨_, rfl, (rin_spec (lo := 1) (hi := 1125899906842624) rd6).mono ?_⟩
  rintro v h9 ⟨rd9, u9, rfl⟩
  rw [e1] at rd9 ⊢
  dsimp only at rd9 ⊢
  have hsl : (plainB l).length < (recB m l).size := by
    have h1 : (recB m l).size = (uintB (2 * m) ++ textB ⟨(plainB l).toArray⟩).length := List.size_toArray ..
    rw [h1, List.length_append, textB_len, hsz]
    have := uintB_pos (2 * m)
    omega
  have e2 : rText ((recB m l).size : Int) (some (textB ⟨(plainB l).toArray⟩)) = (⟨(plainB l).toArray⟩, some []) := by
    have := rText_textB (s := ⟨(plainB l).toArray⟩) (most := ((recB m l).size : Int)) (by omega) (by omega) []
    rw [List.append_nil] at this; exact this
  refine ⟨_, rfl, (rtext2_spec (m := ((recB m l).size : Int)) rd9 (by omega) (by omega)).mono ?_⟩
  rintro v h12 ⟨rd12, u12, rfl⟩
  rw [e2] at rd12 ⊢
  dsimp only at rd12 ⊢
  have hrl : r < h6.size := by obtain ⟨_, _, _, p⟩ := rd6; exact at_lt p.box
  have z9 := u9.size
  have z12 := u12.size
  have z1' := k1.size
  have z6 := k6.size
  have k012 : Keep h.size h h12 := (k1.trans (k6.mono z1')).trans ((u9.trans u12).keep (by omega) fun q e => by omega)
  refine ⟨_, rfl, svc_bytes uS uBs' uU8' fun a2 c2 h15 k15 z15 s15 hc15 b15 => ⟨_, _, _, rfl, (cread_spec s15 (by omega)).mono ?_⟩⟩
  rintro v h20 ⟨k20, r2, rfl, hr20, rd20⟩
  have hb2 : bytesL (⟨(plainB l).toArray⟩ : ByteArray) = plainB l := rfl
  rw [hb2] at rd20
  have hu := (rWrs_plain hw (by omega)).1
  have hr2l : r2 < h20.size := by obtain ⟨_, _, _, p⟩ := rd20; exact at_lt p.box
  refine ⟨_, rfl, (ruint2_spec rd20).mono ?_⟩
  rintro v h23 ⟨rd23, u23, rfl, _⟩
  rw [hu] at rd23 ⊢
  dsimp only at rd23 ⊢
  have z15' := k15.size
  have z20 := k20.size
  have z23 := u23.size
  have k1220 : Keep h12.size h12 h20 := k15.trans (k20.mono z15')
  have k020 : Keep h.size h h20 := k012.trans (k1220.mono k012.size)
  have rdo : RdAt (fun q => h1.size ≤ q ∧ q < h6.size) h20 r (some []) := rd12.keep k1220
  have z012 := k012.size
  have k023 : Keep h.size h h23 := k020.trans (u23.keep (by omega) fun q e => by omega)
  refine ⟨_, rfl, fun a k c' n30 G => ∃ j : Nat, n30 = ((l.length - j : Nat) : Int) ∧ j ≤ l.length ∧ Keep h.size h G ∧ h23.size ≤ G.size ∧ RdAt (fun q => h1.size ≤ q ∧ q < h6.size) G r (some []) ∧ RdAt (fun q => h15.size ≤ q ∧ q < h20.size) G r2 (some ((l.drop j).flatMap wrB)) ∧ Vc.Own WrE 42 h23.size G a k c' (l.take j),
    fun _ _ _ n30 _ => n30.toNat, ⟨0, by simp, Nat.zero_le _, k023, Nat.le_refl _, rdo.updM u23.m fun q hq e => by omega, by simpa using rd23, by simpa using Vc.Own.nil _ _ _⟩, ?_⟩
  rintro a27 k28 k29 n30 G ⟨j, rfl, hj, kG, zG, rdoG, rdG, oG⟩
  have hok := oG.1
  rw [List.length_take, Nat.min_eq_left hj] at hok
  subst hok
  have hob := oG.block
  have zhG := kG.size
  refine br_intro (fun e => ?_) fun e => ?_
  · have e := of_decide_eq_true e
    have hjl : j < l.length := by omega
    refine (rgood_spec rdG).mono ?_
    rintro v h33 ⟨rfl, rfl⟩
    refine ⟨_, rfl, br_intro (fun _ => ?_) fun e => by cases e⟩
    have hq : l[j]? = some (l[j]'hjl) := List.getElem?_eq_getElem hjl
    have hmem := List.getElem_mem hjl
    have hdr : (l.drop j).flatMap wrB = wrB l[j] ++ (l.drop (j + 1)).flatMap wrB := by rw [List.drop_eq_getElem_cons hjl, List.flatMap_cons]
    have htk : l.take (j + 1) = l.take j ++ [l[j]] := List.take_succ_eq_append_getElem hjl
    rw [hdr] at rdG
    generalize l[j] = w at hq hmem rdG htk
    refine rd_step (hw w hmem) rdG (fun q hq => by omega) (by omega) fun h36 H hbG bH rdH uH => ?_
    have oH : Vc.Own WrE 42 h23.size H a27 j k29 (l.take j) := oG.upd uH fun q hq e => by have := (hob q hq).1; omega
    have zH := uH.size
    refine ⟨_, _, _, rdWr bH, svc_append1 (x := w) app_wr oH (by omega) (bs_wr w) (by show (4 * (j + 1) + 192) * 40 ≤ 2 ^ 48; omega) fun a' c' h59 o59 u59 b59 => ?_⟩
    have hwu : IntKind.u64.wrap (((l.length - j : Nat) : Int) - 1) = ((l.length - (j + 1) : Nat) : Int) := by
      have : (((l.length - j : Nat) : Int) - 1) = ((l.length - (j + 1) : Nat) : Int) := by omega
      rw [this]; exact wrap_u64n (by omega)
    rw [hwu]
    have z59 := u59.size
    refine ⟨⟨j + 1, rfl, hjl, ?_, by omega, ?_, ?_, ?_⟩, by dsimp only; omega⟩
    · exact (kG.trans (uH.keep zhG fun q e => by omega)).trans (u59.keep (by omega) fun q hq => by have := (hob q hq).1; omega)
    · exact (rdoG.updM uH.m fun q hq e => by omega).updM u59.m fun q hq hb => by have := (hob q hb).1; omega
    · exact rdH.updM u59.m fun q hq hb => by have := (hob q hb).1; omega
    · rw [htk]; exact o59
  · have e := of_decide_eq_false e
    have hjn : j = l.length := by omega
    subst hjn
    rw [List.take_length] at oG
    rw [List.drop_length, List.flatMap_nil] at rdG
    have hd : decide ((some [] : Option (List UInt8)) = some []) = true := decide_eq_true rfl
    refine (rend_spec rdoG).mono ?_
    rintro v h70 ⟨rfl, rfl⟩
    rw [hd]
    refine ⟨_, rfl, br_intro (fun _ => (rend_spec rdG).mono ?_) fun e => by cases e⟩
    rintro v h73 ⟨rfl, rfl⟩
    rw [hd]
    exact ⟨_, rfl, kG, a27, _, k29, rfl, oG.mono (by omega)⟩
section
variable {h : Heap} {t d : Nat} {nm : Str} {lp : Option Addr} {v : Tv} {w : Tw} {N : Nat → Prop} {x : D}
theorem list_box (hb : h[t]? = some (trBox d nm lp v w)) (hnm : nm.size ≤ 1000000) : HC Tryz.prog 67 #[.pointer (some ⟨t, 0, none⟩)] h fun v h' => h' = h ∧ v = .string (nmL nm) := by
  refine HC_of_vc (args := [.pointer (some ⟨t, 0, none⟩)]) (base := 8) (cuts := []) (bigs := []) kM Tryz.func67 ?_
  rw [vcLmList, imax']
  exact ⟨_, rfl, nm, reads_load kS (cell_cells hb rfl), by omega, rfl, rfl⟩
theorem file_box (hb : h[t]? = some (trBox d nm lp v w)) (hnm : nm.size ≤ 1000000) (tab : TabH h) {k : Nat} (hk : k < 1000000) : HC Tryz.prog 70 #[.pointer (some ⟨t, 0, none⟩), .int .i64 k] h fun v h' => Keep h.size h h' ∧ v = .string (nmF nm k) := by
  refine HC_of_vc (args := [.pointer (some ⟨t, 0, none⟩), .int .i64 k]) (base := 13) (cuts := []) (bigs := []) kM Tryz.func70 ?_
  rw [vcLmFile, imax']
  refine ⟨fun H => Keep h.size h H, Keep.refl _ _, _, rfl, nm, fun H kH => reads_load kS (cell_cells (kH.at hb (at_lt hb)) rfl), by omega, (itoa_spec (n := k) (.inr ⟨by omega, tab⟩)).mono ?_⟩
  rintro v h5 ⟨k5, rfl⟩
  refine ⟨_, rfl, k5, ?_, k5, rfl⟩
  have h2 := numS_size (k := 5) hk
  have h3 : (nm ++ (⟨#[45]⟩ : Str)).size = nm.size + 1 := size_app _ _
  show (((nm ++ (⟨#[45]⟩ : Str)).size + (numS k).size : Nat) : Int) ≤ _
  rw [h3]
  omega
theorem digits_ne_draft (n : Nat) : Lib.decDigits n ≠ [100, 114, 97, 102, 116] := fun h => by
  have := digits_all n 100 (by rw [h]; exact List.mem_cons_self)
  exact absurd this (by decide)
set_option maxHeartbeats 2000000 in
theorem tidy_spec {T : TS} (hb : h[t]? = some (trBox d nm lp v w)) (hN : Sl (IntE .i64) h v.an v.kn (intsL T.names)) (hnm : nm.size ≤ 1000000) (tab : TabH h) (dn : DN N d x h) (tf : TF nm x.now T) (hnx : T.next ≤ 100000) (hnl : T.names.length ≤ 100000) (hsz : ∀ f ∈ names x.now, f.size ≤ 9223372036854775807) (hfl : x.now.length ≤ 1000000) :
    HC Tryz.prog 36 #[.pointer (some ⟨t, 0, none⟩)] h fun vv h' => vv = .int .i64 0 ∧ Keep h.size h h' := by
  have hns := next_new tf.inc
  refine HC_of_vc (args := [.pointer (some ⟨t, 0, none⟩)]) (base := 73) (cuts := []) (bigs := []) kM Tryz.func36 ?_
  rw [vcLmTidy]
  refine ⟨_, rfl, _, reads_load kDp' (cell_cells0 hb rfl), (dn.names (by omega) hsz).mono ?_⟩
  rintro vv h3 ⟨k3, a4, k5, c6, rfl, s3⟩
  have hl3 := s3.1
  have hnd : (namesD x).length ≤ 1000000 := by
    unfold namesD
    split
    · simp
    · rw [len_names1]; omega
  refine ⟨_, _, _, rfl, fun _ n10 G => ∃ j : Nat, n10 = j ∧ j ≤ k5 ∧ Keep h3.size h3 G, fun _ n10 _ => k5 - n10.toNat, ⟨0, rfl, Nat.zero_le _, Keep.refl _ _⟩, ?_⟩
  rintro n9 n10 G ⟨j, rfl, hj, kG⟩
  have k0G := k3.trans (kG.mono k3.size)
  refine br_intro (fun e => ?_) fun e => ⟨rfl, k0G⟩
  have e := of_decide_eq_true e
  have hjl : j < (namesD x).length := by omega
  have hq : (namesD x)[j]? = some ((namesD x)[j]'hjl) := List.getElem?_eq_getElem hjl
  have hmem := List.getElem_mem hjl
  generalize (namesD x)[j]'hjl = f at hq hmem
  have hmem2 : f ∈ names x.now := by
    unfold namesD at hmem
    split at hmem
    · cases hmem
    · exact hmem
  have hsome : (mGet x.now f).isSome = true := by
    cases hg : mGet x.now f with
    | some l => rfl
    | none => rw [mGet_none] at hg; exact absurd hmem2 hg
  have hfs := hsz f hmem2
  have bG := k0G.at hb (at_lt hb)
  obtain ⟨p12, ea, hp12⟩ := (s3.keep kG).get hq
  have go : ∀ {H : Heap}, Keep G.size G H → (∃ j' : Nat, IntKind.i64.wrap ((j : Int) + 1) = j' ∧ j' ≤ k5 ∧ Keep h3.size h3 H) ∧ k5 - (IntKind.i64.wrap ((j : Int) + 1)).toNat < k5 - ((j : Int)).toNat := fun {H} kH => by
    rw [wrap_i64 (by omega) (by omega)]
    exact ⟨⟨j + 1, rfl, by omega, kG.trans (kH.mono kG.size)⟩, by omega⟩
  refine ⟨p12, ⟨ea, by omega, e⟩, f, reads_load kS (by rw [Int.toNat_natCast]; exact hp12 0 _ rfl), _, rfl, nm, reads_load kS (cell_cells bG rfl), by rw [imax']; omega, (cutP_spec f (nm ++ ⟨#[45]⟩) G hfs).mono ?_⟩
  rintro vv h17 ⟨rfl, hv⟩
  rcases hv with ⟨r, hr, rfl⟩ | ⟨hno, rfl⟩
  · have hun : under nm f := ⟨r, by rw [hr]; simp [ByteArray.data_append]⟩
    refine ⟨_, _, rfl, br_intro (fun _ => (list_box bG hnm).mono ?_) fun e => by cases e⟩
    rintro vv h21 ⟨rfl, rfl⟩
    refine ⟨_, rfl, br_intro (fun _ => go (Keep.refl _ _)) fun e => ?_⟩
    have hne : f ≠ nmL nm := fun h => by rw [eq_beq.2 h] at e; cases e
    obtain ⟨k, hk, hfk⟩ : ∃ k ∈ T.names, f = nmF nm k := by
      rcases tf.only f hun hsome with h | h
      · exact absurd h hne
      · exact h
    have hk6 := hns k hk
    have hrd : r = Lib.decDigits k := by
      have h1 : f.data.toList = (nmF nm k).data.toList := by rw [hfk]
      rw [nmF_list, hr] at h1
      have h2 : (nm ++ (⟨#[45]⟩ : Str)).data.toList = nm.data.toList ++ [45] := by simp [ByteArray.data_append]
      rw [h2, List.append_assoc] at h1
      have h3 := List.append_cancel_left h1
      simpa using h3
    subst hrd
    have hnum : (⟨(Lib.decDigits k).toArray⟩ : Str) = numS k := rfl
    rw [hnum]
    have hks := numS_size (k := 5) (n := k) (by omega)
    refine (atoi_spec (s := numS k) (n := k) (by omega) (atoi_digits k)).mono ?_
    rintro vv h24 ⟨k24, rfl⟩
    have hdr : ((numS k).toList == ([100, 114, 97, 102, 116] : List UInt8)) = false := by
      rw [ByteArray.toList_eq, numS_list]
      exact beq_eq_false_iff_ne.2 (digits_ne_draft k)
    refine ⟨_, _, rfl, _, fun _ => reads_neq_nilI (by kernel_rfl), ?_⟩
    show br (bif ((numS k).toList == ([100, 114, 97, 102, 116] : List UInt8)) then false else true) _ _
    rw [hdr]
    have tab24 := (tab.updM k0G.m (S := fun _ => False) id).updM k24.m (S := fun _ => False) id
    refine br_intro (fun _ => br_intro (fun _ => (itoa_spec (n := k) (.inr ⟨by omega, tab24⟩)).mono ?_) fun e => by cases e) fun e => by cases e
    rintro vv h169 ⟨k169, rfl⟩
    have kk := k24.trans (k169.mono k24.size)
    have kk0 := k0G.trans (kk.mono k0G.size)
    have b169 := kk.at bG (at_lt bG)
    have hself : ((numS k).toList == (numS k).toList) = true := by simp
    refine ⟨_, rfl, ?_⟩
    rw [hself]
    refine ⟨_, fun _ => rfl, _, _, _, fun _ => reads_load kIs (cell_cells b169 rfl), br_intro (fun _ => (contI_spec (k := (k : Int)) (hN.keep kk0) (by have := hN.1; unfold intsL at this; rw [List.length_map] at this; omega)).mono ?_) fun e => by cases e⟩
    rintro vv h176 ⟨rfl, rfl⟩
    have hin : ((k : Int) ∈ intsL T.names) := List.mem_map_of_mem hk
    rw [decide_eq_true hin]
    exact ⟨_, rfl, br_intro (fun _ => go kk) fun e => by cases e⟩
  · exact ⟨_, _, rfl, br_intro (fun e => by cases e) fun _ => go (Keep.refl _ _)⟩
end
end Go.Proofs.YtkhinnchplahlaaGreatDoor
end

section
set_option linter.unusedVariables false
set_option maxRecDepth 100000
namespace Go.Proofs.YtkhinnchplahlaaGreatDoor
open Go Go.Vc Go.Proofs

theorem vcLmTell (t : Nat) (h : Heap) (R : Value → Heap → Prop) :
    vcF Tryz.prog Tryz.f35 107 [] [] [.pointer (some ⟨t, 0, none⟩)] h R =
(∃ (I0 : Heap → Prop),
 I0 h ∧
 ∃ (p1 : Addr),
 some (Addr.mk t (0 : Nat) none) = some p1 ∧
 ∃ (a2 : Option Addr),
 (∀ (h3 : Heap), I0 h3 → Reads Tryz.prog (Instr.loadAt (25 : Nat) (Value.pointer (some p1))) h3 (Value.pointer a2)) ∧
 HC Tryz.prog (67 : Nat) (Array.mk [Value.pointer (some (Addr.mk t (0 : Nat) none))]) h fun (v4 : Value) (h5 : Heap) =>
 ∃ (s6 : ByteArray),
 v4 = Value.string s6 ∧
 I0 h5 ∧
 HC Tryz.prog (66 : Nat) (Array.mk [Value.pointer a2, Value.string s6]) h5 fun (v7 : Value) (h8 : Heap) =>
 ∃ (b9 : Bool),
 v7 = Value.bool b9 ∧
 br (!b9) (R (Value.int IntKind.i64 (0 : Int)) h8)
 (∃ (I10 : Heap → Prop),
 I10 h8 ∧
 ∃ (p11 : Addr),
 some (Addr.mk t (0 : Nat) none) = some p11 ∧
 ∃ (a12 : Option Addr),
 (∀ (h13 : Heap), I10 h13 → Reads Tryz.prog (Instr.loadAt (25 : Nat) (Value.pointer (some p11))) h13 (Value.pointer a12)) ∧
 HC Tryz.prog (67 : Nat) (Array.mk [Value.pointer (some (Addr.mk t (0 : Nat) none))]) h8 fun (v14 : Value) (h15 : Heap) =>
 ∃ (s16 : ByteArray),
 v14 = Value.string s16 ∧
 I10 h15 ∧
 HC Tryz.prog (68 : Nat) (Array.mk [Value.pointer a12, Value.string s16]) h15 fun (v17 : Value) (h18 : Heap) =>
 ∃ (a19 : Option Addr),
 ∃ (n20 : Int),
 v17 = Value.tuple (Array.mk [Value.pointer a19, Value.int IntKind.i64 n20]) ∧
 br (n20 != (0 : Int)) (R (Value.int IntKind.i64 n20) h18)
 (HC Tryz.prog (52 : Nat) (Array.mk [Value.pointer a19]) h18 fun (v21 : Value) (h22 : Heap) =>
 ∃ (a23 : Option Addr),
 ∃ (k24 : Nat),
 ∃ (k25 : Nat),
 v21 = Value.slice a23 k24 k25 ∧
 ∃ (I26 : Int → Int → Heap → Prop),
 ∃ (I27 : Int → Int → Heap → Nat),
 I26 (0 : Int) (0 : Int) h22 ∧
 ∀ (n28 n29 : Int) (h30 : Heap),
 I26 n28 n29 h30 →
 br (decide (n29 < (↑k24 : Int)))
 (∃ (p31 : Addr),
 (a23 = some p31 ∧ (0 : Int) ≤ n29 ∧ n29 < (↑k24 : Int)) ∧
 ∃ (s32 : ByteArray),
 ∃ (s33 : ByteArray),
 ∃ (b34 : Bool),
 Reads Tryz.prog (Instr.loadAt (42 : Nat) (Value.pointer (some (p31.add (n29.toNat * (3 : Nat)))))) h30
 (Value.agg (Array.mk [Value.string s32, Value.string s33, Value.bool b34])) ∧
 SVC Tryz.prog
 (Instr.storeAt (42 : Nat) (Value.pointer (some (Addr.mk (Array.size h30) (0 : Nat) none)))
 (Value.agg (Array.mk [Value.string s32, Value.string s33, Value.bool b34])))
 (Array.push h30
 (Obj.cells
 (Array.mk
 [Value.string (ByteArray.mk (Array.mk [])), Value.string (ByteArray.mk (Array.mk [])),
 Value.bool false])
 (42 : Nat)))
 fun (x35 : Unit) (h36 : Heap) =>
 ∃ (s37 : ByteArray),
 Reads Tryz.prog
 (Instr.loadAt (9 : Nat)
 (Value.pointer (some ((Addr.mk (Array.size h30) (0 : Nat) none).add (1 : Nat)))))
 h36 (Value.string s37) ∧
 HC Tryz.prog (69 : Nat) (Array.mk [Value.string s37]) h36 fun (v38 : Value) (h39 : Heap) =>
 ∃ (n40 : Int),
 ∃ (v41 : Value),
 v38 = Value.tuple (Array.mk [Value.int IntKind.i64 n40, v41]) ∧
 ∃ (b42 : Bool),
 Reads Tryz.prog
 (eqSem BinOp.neq (138 : Nat) (Operand.tmp (45 : Nat)) (Operand.const Value.nilIface) v41
 Value.nilIface)
 h39 (Value.bool b42) ∧
 br (b42 || decide (n40 < (0 : Int))) (R (Value.int IntKind.i64 (4 : Int)) h39)
 (∃ (s43 : ByteArray),
 Reads Tryz.prog
 (Instr.loadAt (9 : Nat)
 (Value.pointer (some (Addr.mk (Array.size h30) (0 : Nat) none))))
 h39 (Value.string s43) ∧
 br
 (s43.toList ==
 [(Subtype.mk
 ((ByteArray.mk
 (Array.mk
 [(108 : UInt8), (97 : UInt8), (105 : UInt8), (100 : UInt8)])).get!
 (0 : Nat))
 (List.forall_mem_cons.mp
 (List.forall_mem_cons.mp
 (List.forall_mem_cons.mp
 (List.forall_mem_cons.mp
 (List.attach._proof_1
 [(ByteArray.mk
 (Array.mk
 [(108 : UInt8), (97 : UInt8), (105 : UInt8),
 (100 : UInt8)])).get!
 (3 : Nat),
 (ByteArray.mk
 (Array.mk
 [(108 : UInt8), (97 : UInt8), (105 : UInt8),
 (100 : UInt8)])).get!
 (2 : Nat),
 (ByteArray.mk
 (Array.mk
 [(108 : UInt8), (97 : UInt8), (105 : UInt8),
 (100 : UInt8)])).get!
 (1 : Nat),
 (ByteArray.mk
 (Array.mk
 [(108 : UInt8), (97 : UInt8), (105 : UInt8),
 (100 : UInt8)])).get!
 (0 : Nat)])).right).right).right).left).val,
 (Subtype.mk
 ((ByteArray.mk
 (Array.mk
 [(108 : UInt8), (97 : UInt8), (105 : UInt8), (100 : UInt8)])).get!
 (1 : Nat))
 (List.forall_mem_cons.mp
 (List.forall_mem_cons.mp
 (List.forall_mem_cons.mp
 (List.attach._proof_1
 [(ByteArray.mk
 (Array.mk
 [(108 : UInt8), (97 : UInt8), (105 : UInt8),
 (100 : UInt8)])).get!
 (3 : Nat),
 (ByteArray.mk
 (Array.mk
 [(108 : UInt8), (97 : UInt8), (105 : UInt8),
 (100 : UInt8)])).get!
 (2 : Nat),
 (ByteArray.mk
 (Array.mk
 [(108 : UInt8), (97 : UInt8), (105 : UInt8),
 (100 : UInt8)])).get!
 (1 : Nat),
 (ByteArray.mk
 (Array.mk
 [(108 : UInt8), (97 : UInt8), (105 : UInt8),
 (100 : UInt8)])).get!
 (0 : Nat)])).right).right).left).val,
 (Subtype.mk
 ((ByteArray.mk
 (Array.mk
 [(108 : UInt8), (97 : UInt8), (105 : UInt8), (100 : UInt8)])).get!
 (2 : Nat))
 (List.forall_mem_cons.mp
 (List.forall_mem_cons.mp
 (List.attach._proof_1
 [(ByteArray.mk
 (Array.mk
 [(108 : UInt8), (97 : UInt8), (105 : UInt8),
 (100 : UInt8)])).get!
 (3 : Nat),
 (ByteArray.mk
 (Array.mk
 [(108 : UInt8), (97 : UInt8), (105 : UInt8),
 (100 : UInt8)])).get!
 (2 : Nat),
 (ByteArray.mk
 (Array.mk
 [(108 : UInt8), (97 : UInt8), (105 : UInt8),
 (100 : UInt8)])).get!
 (1 : Nat),
 (ByteArray.mk
 (Array.mk
 [(108 : UInt8), (97 : UInt8), (105 : UInt8),
 (100 : UInt8)])).get!
 (0 : Nat)])).right).left).val,
 (Subtype.mk
 ((ByteArray.mk
 (Array.mk
 [(108 : UInt8), (97 : UInt8), (105 : UInt8), (100 : UInt8)])).get!
 (3 : Nat))
 (List.forall_mem_cons.mp
 (List.attach._proof_1
 [(ByteArray.mk
 (Array.mk
 [(108 : UInt8), (97 : UInt8), (105 : UInt8),
 (100 : UInt8)])).get!
 (3 : Nat),
 (ByteArray.mk
 (Array.mk
 [(108 : UInt8), (97 : UInt8), (105 : UInt8),
 (100 : UInt8)])).get!
 (2 : Nat),
 (ByteArray.mk
 (Array.mk
 [(108 : UInt8), (97 : UInt8), (105 : UInt8),
 (100 : UInt8)])).get!
 (1 : Nat),
 (ByteArray.mk
 (Array.mk
 [(108 : UInt8), (97 : UInt8), (105 : UInt8),
 (100 : UInt8)])).get!
 (0 : Nat)])).left).val])
 (∃ (p92 : Addr),
 some (Addr.mk t (0 : Nat) none) = some p92 ∧
 SVC Tryz.prog
 (Instr.storeAt (3 : Nat) (Value.pointer (some (p92.add (7 : Nat))))
 (Value.int IntKind.i64 n40))
 h39 fun (x93 : Unit) (h94 : Heap) =>
 ∃ (p95 : Addr),
 some (Addr.mk t (0 : Nat) none) = some p95 ∧
 SVC Tryz.prog
 (Instr.storeAt (3 : Nat) (Value.pointer (some (p95.add (8 : Nat))))
 (Value.int IntKind.i64 n40))
 h94 fun (x96 : Unit) (h97 : Heap) =>
 I26 n28 (IntKind.i64.wrap (n29 + (1 : Int))) h97 ∧
 I27 n28 (IntKind.i64.wrap (n29 + (1 : Int))) h97 < I27 n28 n29 h30)
 (∃ (I98 : Heap → Prop),
 I98 h39 ∧
 ∃ (p99 : Addr),
 some (Addr.mk t (0 : Nat) none) = some p99 ∧
 ∃ (a100 : Option Addr),
 (∀ (h101 : Heap),
 I98 h101 →
 Reads Tryz.prog
 (Instr.loadAt (25 : Nat) (Value.pointer (some p99))) h101
 (Value.pointer a100)) ∧
 HC Tryz.prog (70 : Nat)
 (Array.mk
 [Value.pointer (some (Addr.mk t (0 : Nat) none)),
 Value.int IntKind.i64 n40])
 h39 fun (v102 : Value) (h103 : Heap) =>
 ∃ (s104 : ByteArray),
 v102 = Value.string s104 ∧
 I98 h103 ∧
 HC Tryz.prog (68 : Nat)
 (Array.mk [Value.pointer a100, Value.string s104]) h103
 fun (v105 : Value) (h106 : Heap) =>
 ∃ (a107 : Option Addr),
 ∃ (n108 : Int),
 v105 =
 Value.tuple
 (Array.mk
 [Value.pointer a107,
 Value.int IntKind.i64 n108]) ∧
 br (n108 != (0 : Int))
 (R (Value.int IntKind.i64 n108) h106)
 (∃ (I109 : Nat → Heap → Prop),
 I109 (6) h106 ∧
 I109 (13) h106 ∧
 I109 (20) h106 ∧
 I109 (23) h106 ∧
 ∃ (p110 : Addr),
 some (Addr.mk t (0 : Nat) none) =
 some p110 ∧
 ∃ (a111 : Option Addr),
 ∃ (k112 : Nat),
 ∃ (k113 : Nat),
 (∀ (h114 : Heap),
 I109 (6) h114 →
 Reads Tryz.prog
 (Instr.loadAt (79 : Nat)
 (Value.pointer
 (some
 (p110.add
 (4 : Nat)))))
 h114
 (Value.slice a111 k112
 k113)) ∧
 ∃ (p115 : Addr),
 some
 (Addr.mk t (0 : Nat)
 none) =
 some p115 ∧
 ∃ (a116 : Option Addr),
 ∃ (k117 : Nat),
 ∃ (k118 : Nat),
 (∀ (h119 : Heap),
 I109
 (13)
 h119 →
 Reads
 Tryz.prog
 (Instr.loadAt
 (80 : Nat)
 (Value.pointer
 (some
 (p115.add
 (5 :
 Nat)))))
 h119
 (Value.slice
 a116 k117
 k118)) ∧
 ∃ (p120 : Addr),
 some
 (Addr.mk t
 (0 :
 Nat)
 none) =
 some p120 ∧
 ∃ (n121 :
 Int),
 (∀
 (h122 :
 Heap),
 I109
 (nat_lit
 20)
 h122 →
 Reads
 Tryz.prog
 (Instr.loadAt
 (3 :
 Nat)
 (Value.pointer
 (some
 (p120.add
 (6 :
 Nat)))))
 h122
 (Value.int
 IntKind.i64
 n121)) ∧
 ∃ (n123 :
 Int),
 (∀
 (h124 :
 Heap),
 I109
 (nat_lit
 23)
 h124 →
 Reads
 Tryz.prog
 (Builtin.max_
 (Array.mk
 [(3 :
 Nat),
 (3 :
 Nat)])
 (3 :
 Nat)
 (Array.mk
 [Value.int
 IntKind.i64
 n121,
 Value.int
 IntKind.i64
 (IntKind.i64.wrap
 (n40 +
 (1 :
 Int)))]))
 h124
 (Value.int
 IntKind.i64
 n123)) ∧
 (SVC
 Tryz.prog
 (Instr.buildSlice
 (79 :
 Nat)
 (1 :
 Nat)
 (Array.mk
 [((0 :
 Nat),
 Value.int
 IntKind.i64
 n40)]))
 h106
 fun
 (v125 :
 Value)
 (h126 :
 Heap) =>
 ∃
 (a127
 :
 Option
 Addr),
 ∃
 (k128
 :
 Nat),
 ∃
 (k129
 :
 Nat),
 v125 =
 Value.slice
 a127
 k128
 k129 ∧
 I109
 (nat_lit
 6)
 h126 ∧
 I109
 (nat_lit
 13)
 h126 ∧
 I109
 (nat_lit
 20)
 h126 ∧
 I109
 (nat_lit
 23)
 h126 ∧
 (SVC
 Tryz.prog
 (Builtin.append_
 (Array.mk
 [(79 :
 Nat),
 (79 :
 Nat)])
 (79 :
 Nat)
 (Array.mk
 [Value.slice
 a111
 k112
 k113,
 Value.slice
 a127
 k128
 k129]))
 h126
 fun
 (v130 :
 Value)
 (h131 :
 Heap) =>
 ∃
 (a132
 :
 Option
 Addr),
 ∃
 (k133
 :
 Nat),
 ∃
 (k134
 :
 Nat),
 v130 =
 Value.slice
 a132
 k133
 k134 ∧
 I109
 (nat_lit
 13)
 h131 ∧
 I109
 (nat_lit
 20)
 h131 ∧
 I109
 (nat_lit
 23)
 h131 ∧
 SVC
 Tryz.prog
 (Instr.buildSlice
 (80 :
 Nat)
 (1 :
 Nat)
 (Array.mk
 [((0 :
 Nat),
 Value.pointer
 a107)]))
 h131
 fun
 (v135 :
 Value)
 (h136 :
 Heap) =>
 ∃
 (a137
 :
 Option
 Addr),
 ∃
 (k138
 :
 Nat),
 ∃
 (k139
 :
 Nat),
 v135 =
 Value.slice
 a137
 k138
 k139 ∧
 I109
 (nat_lit
 6)
 h136 ∧
 I109
 (nat_lit
 13)
 h136 ∧
 I109
 (nat_lit
 20)
 h136 ∧
 I109
 (nat_lit
 23)
 h136 ∧
 SVC
 Tryz.prog
 (Builtin.append_
 (Array.mk
 [(80 :
 Nat),
 (80 :
 Nat)])
 (80 :
 Nat)
 (Array.mk
 [Value.slice
 a116
 k117
 k118,
 Value.slice
 a137
 k138
 k139]))
 h136
 fun
 (v140 :
 Value)
 (h141 :
 Heap) =>
 ∃
 (a142
 :
 Option
 Addr),
 ∃
 (k143
 :
 Nat),
 ∃
 (k144
 :
 Nat),
 v140 =
 Value.slice
 a142
 k143
 k144 ∧
 I109
 (nat_lit
 20)
 h141 ∧
 I109
 (nat_lit
 23)
 h141 ∧
 ∃
 (p145
 :
 Addr),
 some
 (Addr.mk
 t
 (0 :
 Nat)
 none) =
 some
 p145 ∧
 SVC
 Tryz.prog
 (Instr.storeAt
 (79 :
 Nat)
 (Value.pointer
 (some
 (p145.add
 (4 :
 Nat))))
 (Value.slice
 a132
 k133
 k134))
 h141
 fun
 (x146 :
 Unit)
 (h147 :
 Heap) =>
 I109
 (nat_lit
 23)
 h147 ∧
 ∃
 (p148
 :
 Addr),
 some
 (Addr.mk
 t
 (0 :
 Nat)
 none) =
 some
 p148 ∧
 SVC
 Tryz.prog
 (Instr.storeAt
 (80 :
 Nat)
 (Value.pointer
 (some
 (p148.add
 (5 :
 Nat))))
 (Value.slice
 a142
 k143
 k144))
 h147
 fun
 (x149 :
 Unit)
 (h150 :
 Heap) =>
 I109
 (nat_lit
 23)
 h150 ∧
 ∃
 (p151
 :
 Addr),
 some
 (Addr.mk
 t
 (0 :
 Nat)
 none) =
 some
 p151 ∧
 SVC
 Tryz.prog
 (Instr.storeAt
 (3 :
 Nat)
 (Value.pointer
 (some
 (p151.add
 (6 :
 Nat))))
 (Value.int
 IntKind.i64
 n123))
 h150
 fun
 (x152 :
 Unit)
 (h153 :
 Heap) =>
 I26
 n28
 (IntKind.i64.wrap
 (n29 +
 (1 :
 Int)))
 h153 ∧
 I27
 n28
 (IntKind.i64.wrap
 (n29 +
 (1 :
 Int)))
 h153 <
 I27
 n28
 n29
 h30) ∧
 SVC
 Tryz.prog
 (Instr.buildSlice
 (80 :
 Nat)
 (1 :
 Nat)
 (Array.mk
 [((0 :
 Nat),
 Value.pointer
 a107)]))
 h126
 fun
 (v154 :
 Value)
 (h155 :
 Heap) =>
 ∃
 (a156
 :
 Option
 Addr),
 ∃
 (k157
 :
 Nat),
 ∃
 (k158
 :
 Nat),
 v154 =
 Value.slice
 a156
 k157
 k158 ∧
 I109
 (nat_lit
 6)
 h155 ∧
 I109
 (nat_lit
 13)
 h155 ∧
 I109
 (nat_lit
 20)
 h155 ∧
 I109
 (nat_lit
 23)
 h155 ∧
 SVC
 Tryz.prog
 (Builtin.append_
 (Array.mk
 [(79 :
 Nat),
 (79 :
 Nat)])
 (79 :
 Nat)
 (Array.mk
 [Value.slice
 a111
 k112
 k113,
 Value.slice
 a127
 k128
 k129]))
 h155
 fun
 (v159 :
 Value)
 (h160 :
 Heap) =>
 ∃
 (a161
 :
 Option
 Addr),
 ∃
 (k162
 :
 Nat),
 ∃
 (k163
 :
 Nat),
 v159 =
 Value.slice
 a161
 k162
 k163 ∧
 I109
 (nat_lit
 13)
 h160 ∧
 I109
 (nat_lit
 20)
 h160 ∧
 I109
 (nat_lit
 23)
 h160 ∧
 SVC
 Tryz.prog
 (Builtin.append_
 (Array.mk
 [(80 :
 Nat),
 (80 :
 Nat)])
 (80 :
 Nat)
 (Array.mk
 [Value.slice
 a116
 k117
 k118,
 Value.slice
 a156
 k157
 k158]))
 h160
 fun
 (v164 :
 Value)
 (h165 :
 Heap) =>
 ∃
 (a166
 :
 Option
 Addr),
 ∃
 (k167
 :
 Nat),
 ∃
 (k168
 :
 Nat),
 v164 =
 Value.slice
 a166
 k167
 k168 ∧
 I109
 (nat_lit
 20)
 h165 ∧
 I109
 (nat_lit
 23)
 h165 ∧
 ∃
 (p169
 :
 Addr),
 some
 (Addr.mk
 t
 (0 :
 Nat)
 none) =
 some
 p169 ∧
 SVC
 Tryz.prog
 (Instr.storeAt
 (79 :
 Nat)
 (Value.pointer
 (some
 (p169.add
 (4 :
 Nat))))
 (Value.slice
 a161
 k162
 k163))
 h165
 fun
 (x170 :
 Unit)
 (h171 :
 Heap) =>
 I109
 (nat_lit
 23)
 h171 ∧
 ∃
 (p172
 :
 Addr),
 some
 (Addr.mk
 t
 (0 :
 Nat)
 none) =
 some
 p172 ∧
 SVC
 Tryz.prog
 (Instr.storeAt
 (80 :
 Nat)
 (Value.pointer
 (some
 (p172.add
 (5 :
 Nat))))
 (Value.slice
 a166
 k167
 k168))
 h171
 fun
 (x173 :
 Unit)
 (h174 :
 Heap) =>
 I109
 (nat_lit
 23)
 h174 ∧
 ∃
 (p175
 :
 Addr),
 some
 (Addr.mk
 t
 (0 :
 Nat)
 none) =
 some
 p175 ∧
 SVC
 Tryz.prog
 (Instr.storeAt
 (3 :
 Nat)
 (Value.pointer
 (some
 (p175.add
 (6 :
 Nat))))
 (Value.int
 IntKind.i64
 n123))
 h174
 fun
 (x176 :
 Unit)
 (h177 :
 Heap) =>
 I26
 n28
 (IntKind.i64.wrap
 (n29 +
 (1 :
 Int)))
 h177 ∧
 I27
 n28
 (IntKind.i64.wrap
 (n29 +
 (1 :
 Int)))
 h177 <
 I27
 n28
 n29
 h30) ∧
 SVC
 Tryz.prog
 (Instr.buildSlice
 (80 :
 Nat)
 (1 :
 Nat)
 (Array.mk
 [((0 :
 Nat),
 Value.pointer
 a107)]))
 h106
 fun
 (v178 :
 Value)
 (h179 :
 Heap) =>
 ∃
 (a180
 :
 Option
 Addr),
 ∃
 (k181
 :
 Nat),
 ∃
 (k182
 :
 Nat),
 v178 =
 Value.slice
 a180
 k181
 k182 ∧
 I109
 (nat_lit
 6)
 h179 ∧
 I109
 (nat_lit
 13)
 h179 ∧
 I109
 (nat_lit
 20)
 h179 ∧
 I109
 (nat_lit
 23)
 h179 ∧
 SVC
 Tryz.prog
 (Instr.buildSlice
 (79 :
 Nat)
 (1 :
 Nat)
 (Array.mk
 [((0 :
 Nat),
 Value.int
 IntKind.i64
 n40)]))
 h179
 fun
 (v183 :
 Value)
 (h184 :
 Heap) =>
 ∃
 (a185
 :
 Option
 Addr),
 ∃
 (k186
 :
 Nat),
 ∃
 (k187
 :
 Nat),
 v183 =
 Value.slice
 a185
 k186
 k187 ∧
 I109
 (nat_lit
 6)
 h184 ∧
 I109
 (nat_lit
 13)
 h184 ∧
 I109
 (nat_lit
 20)
 h184 ∧
 I109
 (nat_lit
 23)
 h184 ∧
 SVC
 Tryz.prog
 (Builtin.append_
 (Array.mk
 [(79 :
 Nat),
 (79 :
 Nat)])
 (79 :
 Nat)
 (Array.mk
 [Value.slice
 a111
 k112
 k113,
 Value.slice
 a185
 k186
 k187]))
 h184
 fun
 (v188 :
 Value)
 (h189 :
 Heap) =>
 ∃
 (a190
 :
 Option
 Addr),
 ∃
 (k191
 :
 Nat),
 ∃
 (k192
 :
 Nat),
 v188 =
 Value.slice
 a190
 k191
 k192 ∧
 I109
 (nat_lit
 13)
 h189 ∧
 I109
 (nat_lit
 20)
 h189 ∧
 I109
 (nat_lit
 23)
 h189 ∧
 SVC
 Tryz.prog
 (Builtin.append_
 (Array.mk
 [(80 :
 Nat),
 (80 :
 Nat)])
 (80 :
 Nat)
 (Array.mk
 [Value.slice
 a116
 k117
 k118,
 Value.slice
 a180
 k181
 k182]))
 h189
 fun
 (v193 :
 Value)
 (h194 :
 Heap) =>
 ∃
 (a195
 :
 Option
 Addr),
 ∃
 (k196
 :
 Nat),
 ∃
 (k197
 :
 Nat),
 v193 =
 Value.slice
 a195
 k196
 k197 ∧
 I109
 (nat_lit
 20)
 h194 ∧
 I109
 (nat_lit
 23)
 h194 ∧
 ∃
 (p198
 :
 Addr),
 some
 (Addr.mk
 t
 (0 :
 Nat)
 none) =
 some
 p198 ∧
 SVC
 Tryz.prog
 (Instr.storeAt
 (79 :
 Nat)
 (Value.pointer
 (some
 (p198.add
 (4 :
 Nat))))
 (Value.slice
 a190
 k191
 k192))
 h194
 fun
 (x199 :
 Unit)
 (h200 :
 Heap) =>
 I109
 (nat_lit
 23)
 h200 ∧
 ∃
 (p201
 :
 Addr),
 some
 (Addr.mk
 t
 (0 :
 Nat)
 none) =
 some
 p201 ∧
 SVC
 Tryz.prog
 (Instr.storeAt
 (80 :
 Nat)
 (Value.pointer
 (some
 (p201.add
 (5 :
 Nat))))
 (Value.slice
 a195
 k196
 k197))
 h200
 fun
 (x202 :
 Unit)
 (h203 :
 Heap) =>
 I109
 (nat_lit
 23)
 h203 ∧
 ∃
 (p204
 :
 Addr),
 some
 (Addr.mk
 t
 (0 :
 Nat)
 none) =
 some
 p204 ∧
 SVC
 Tryz.prog
 (Instr.storeAt
 (3 :
 Nat)
 (Value.pointer
 (some
 (p204.add
 (6 :
 Nat))))
 (Value.int
 IntKind.i64
 n123))
 h203
 fun
 (x205 :
 Unit)
 (h206 :
 Heap) =>
 I26
 n28
 (IntKind.i64.wrap
 (n29 +
 (1 :
 Int)))
 h206 ∧
 I27
 n28
 (IntKind.i64.wrap
 (n29 +
 (1 :
 Int)))
 h206 <
 I27
 n28
 n29
 h30))))
 (R (Value.int IntKind.i64 (0 : Int)) h30)))) := by kernel_rfl
end Go.Proofs.YtkhinnchplahlaaGreatDoor
end

section
set_option linter.unusedVariables false
set_option linter.unusedSimpArgs false
set_option maxRecDepth 100000
namespace Go.Proofs.YtkhinnchplahlaaGreatDoor
open Go Go.Vc Go.Proofs Go.Dk Go.Kv Go.Ls Go.Cd
open Go.Pg (Quiet Nx layW partB nparts partsW partsW_len)

def nxt (l : List Nat) : Nat := match l.getLast? with
  | none => 0
  | some n => n + 1
theorem nxt_snoc (l : List Nat) (n : Nat) : nxt (l ++ [n]) = n + 1 := by unfold nxt; simp
theorem nxt_le {l : List Nat} {n : Nat} (h : ∀ m ∈ l, m < n) : nxt l ≤ n := by
  unfold nxt
  cases hl : l.getLast? with
  | none => exact Nat.zero_le _
  | some m => exact h m (List.mem_of_getLast? hl)
theorem lstE_at {names : List Nat} {j n : Nat} (h : names[j]? = some n) : (lstE names)[j]? = some ⟨⟨#[UInt8.ofNat j]⟩, numS n, false⟩ := by
  unfold lstE
  rw [List.getElem?_map, List.getElem?_zipIdx, h]
  simp
/-- the tree's rows while its list is read. -/
structure Tl (T : TS) (t d : Nat) (nm : Str) (h22 : Heap) (j : Nat) (v : Tv) (G : Heap) : Prop where
  box : G[t]? = some (trBox d nm none v ⟨[], [], T.names.take j, T.tabs.take j, nxt (T.names.take j), if j ≤ T.names.length then 0 else T.laid, if j ≤ T.names.length then 0 else T.laid⟩)
  m0 : v.am = none ∧ v.km = 0 ∧ v.cm = 0
  nms : Vc.Own (IntE .i64) 3 h22.size G v.an v.kn v.cn (intsL (T.names.take j))
  tbl : Vc.Own TbE 95 h22.size G v.aT v.kT v.cT v.ts
  tbs : TbsAt (fun q => h22.size ≤ q ∧ q < G.size ∧ ¬ blk v.an q ∧ ¬ blk v.aT q) G v.ts (T.tabs.take j)
  dis : ∀ q, blk v.an q → ¬ blk v.aT q
  up : Upd (fun q => q = t) h22 G
section
variable {h : Heap} {t d : Nat} {nm : Str} {N : Nat → Prop} {x : D}
set_option maxHeartbeats 4000000 in
theorem tell_spec {T : TS} (hb : h[t]? = some (trBox d nm none ⟨none, 0, 0, none, 0, 0, none, 0, 0, []⟩ ⟨[], [], [], [], 0, 0, 0⟩)) (hNt : N t) (hnm : nm.size ≤ 1000000) (tab : TabH h) (hgb : gb ≠ t) (dn : DN N d x h) (tf : TF nm x.now T) (hq : Quiet x)
    (hnl : T.names.length ≤ 90) (hnx : T.next ≤ 100000) (hla : T.laid < 1000000) (hTl : T.tabs.flatten.length ≤ 100000) :
    HC Tryz.prog 35 #[.pointer (some ⟨t, 0, none⟩)] h fun vv h' => vv = .int .i64 0 ∧ Upd (fun q => q = t) h h' ∧ ∃ v h22, h.size ≤ h22.size ∧ Tl T t d nm h22 (T.names.length + 1) v h' := by
  have hns := next_new tf.inc
  have htl := at_lt hb
  have hdn := hq.down
  have htlen := tf.lens
  refine HC_of_vc (args := [.pointer (some ⟨t, 0, none⟩)]) (base := 107) (cuts := []) (bigs := []) kM Tryz.func35 ?_
  rw [vcLmTell]
  have rdd : ∀ {H : Heap} {v : Tv} {w : Tw}, H[t]? = some (trBox d nm none v w) → Reads Tryz.prog (Instr.loadAt 25 (.pointer (some ⟨t, 0, none⟩))) H (.pointer (some ⟨d, 0, none⟩)) := fun hb => reads_load kDp' (cell_cells0 hb rfl)
  refine ⟨fun H => H = h, rfl, _, rfl, _, fun H e => by rw [e]; exact rdd hb, (list_box hb hnm).mono ?_⟩
  rintro vv h5 ⟨rfl, rfl⟩
  refine ⟨_, rfl, rfl, (dn.has (nmL nm)).mono ?_⟩
  rintro vv h8 ⟨rfl, rfl⟩
  by_cases hnn : T.names = []
  · have hhas : Dk.has x (nmL nm) = false := by unfold Dk.has; rw [(tf.noL hnn).1]; simp
    rw [hhas]
    refine ⟨_, rfl, br_intro (fun _ => ⟨rfl, Upd.refl _ _, ⟨none, 0, 0, none, 0, 0, none, 0, 0, []⟩, h8, Nat.le_refl _, ?_⟩) fun e => by cases e⟩
    have hT0 : T.tabs = [] := List.eq_nil_of_length_eq_zero (by rw [← htlen, hnn]; rfl)
    refine ⟨?_, ⟨rfl, rfl, rfl⟩, ?_, Vc.Own.nil _ _ _, ?_, fun q hq => (by obtain ⟨_, e, _⟩ := hq; cases e), Upd.refl _ _⟩
    · rw [hnn, hT0, (tf.noL hnn).2]
      rw [hb]
      simp [nxt]
    · rw [hnn]; exact Vc.Own.nil _ _ _
    · rw [hT0]
      exact ⟨by simp, fun i u U h1 _ => by simp at h1⟩
  have hlist := tf.list hnn
  have hhas : Dk.has x (nmL nm) = true := by unfold Dk.has; rw [hlist, hdn]; rfl
  have hnm90 : ∀ n ∈ T.names, n < 1000000 := fun n hn => by have := hns n hn; omega
  have hLfit := ofL_fit (lstW_fit (names := T.names) (laid := T.laid) hnm90 hla)
  have hLlen := ofL_len (lstW T.names T.laid)
  rw [lstW_len] at hLlen
  have hLeq := lstT_eq T.laid T.names (by omega)
  rw [hhas]
  refine ⟨_, rfl, br_intro (fun e => by cases e) fun _ => ⟨fun H => H = h8, rfl, _, rfl, _, fun H e => by rw [e]; exact rdd hb, (list_box hb hnm).mono ?_⟩⟩
  rintro vv h15 ⟨rfl, rfl⟩
  refine ⟨_, rfl, rfl, (load_spec (T := lstT T.names T.laid) dn hdn hlist (ofL_tab _) (by show (ofL (lstW T.names T.laid)).length < 1000000; omega) hLfit).mono ?_⟩
  rintro vv h18 ⟨k18, y, rfl, hy, ty⟩
  refine ⟨_, _, rfl, br_intro (fun e => by simp at e) fun _ => (all_spec ty (by show (ofL (lstW T.names T.laid)).length ≤ 1000000; omega)).mono ?_⟩
  rintro vv h22 ⟨k22, a23, c25, rfl, o22⟩
  have z18 := k18.size
  have z22 := k22.size
  have k022 := k18.trans (k22.mono z18)
  have hLl : (lstT T.names T.laid).length = T.names.length + 1 := by rw [hLeq, List.length_append]; unfold lstE; simp
  have hob22 := o22.block
  refine ⟨_, _, _, rfl, fun _ n29 G => ∃ (j : Nat) (v : Tv), n29 = j ∧ j ≤ T.names.length + 1 ∧ Tl T t d nm h22 j v G, fun _ n29 _ => T.names.length + 1 - n29.toNat,
    ⟨0, ⟨none, 0, 0, none, 0, 0, none, 0, 0, []⟩, rfl, Nat.zero_le _, ⟨?_, ⟨rfl, rfl, rfl⟩, Vc.Own.nil _ _ _, Vc.Own.nil _ _ _, ⟨rfl, fun i u U h1 _ => by simp at h1⟩, fun q hq => (by obtain ⟨_, e, _⟩ := hq; cases e), Upd.refl _ _⟩⟩, ?_⟩
  · rw [k022.at hb htl, if_pos (Nat.zero_le _)]; rfl
  rintro n28 n29 G ⟨j, v, rfl, hj, L⟩
  have zG := L.up.size
  have u0G : Upd (fun q => q = t) h15 G := (k022.upd _).trans L.up
  refine br_intro (fun e => ?_) fun e => ?_
  rotate_left
  · have hjn : j = T.names.length + 1 := by have := of_decide_eq_false e; omega
    subst hjn
    exact ⟨rfl, u0G, v, h22, k022.size, L⟩
  have e := of_decide_eq_true e
  have hjl : j < (lstT T.names T.laid).length := by omega
  have dG : DN N d x G := dn.keepM u0G.m fun q _ e => by rw [e]; exact hNt
  have tabG : TabH G := tab.updM u0G.m hgb
  have sG : Sl WrE G a23 (lstT T.names T.laid).length (lstT T.names T.laid) := (o22.upd L.up fun q hq e => by have := hob22 q hq; omega).sl
  by_cases hjn : j < T.names.length
  · -- one of the tables
    have hqn : T.names[j]? = some (T.names[j]'hjn) := List.getElem?_eq_getElem hjn
    have hmem := List.getElem_mem hjn
    have hjT : j < T.tabs.length := by omega
    have hqT : T.tabs[j]? = some (T.tabs[j]'hjT) := List.getElem?_eq_getElem hjT
    have hmT := List.getElem_mem hjT
    have htk1 : T.names.take (j + 1) = T.names.take j ++ [T.names[j]'hjn] := List.take_succ_eq_append_getElem hjn
    have htk2 : T.tabs.take (j + 1) = T.tabs.take j ++ [T.tabs[j]'hjT] := List.take_succ_eq_append_getElem hjT
    have hfile := tf.files j _ _ hqn hqT
    have hbef : ∀ m ∈ T.names.take j, m < T.names[j]'hjn := fun m hm => by
      obtain ⟨i, hi, rfl⟩ := List.getElem_of_mem hm
      rw [List.length_take] at hi
      rw [List.getElem_take]
      exact (List.pairwise_iff_getElem.1 tf.inc) i j (by omega) hjn (by omega)
    generalize T.names[j]'hjn = n at hqn hmem htk1 hfile hbef
    generalize T.tabs[j]'hjT = U at hqT hmT htk2 hfile
    obtain ⟨hUt, hUf⟩ := tf.tab U hmT
    have hUl : U.length < 1000000 := by
      have : U.length ≤ T.tabs.flatten.length := (List.sublist_flatten_of_mem hmT).length_le
      omega
    have hn6 := hns n hmem
    have hq : (lstT T.names T.laid)[j]? = some ⟨⟨#[UInt8.ofNat j]⟩, numS n, false⟩ := by
      rw [hLeq, List.getElem?_append_left (by unfold lstE; simp; omega)]
      exact lstE_at hqn
    obtain ⟨p31, ea, rd⟩ := wr_at sG hq
    refine ⟨p31, ⟨ea, by omega, e⟩, _, _, _, by rw [Int.toNat_natCast]; exact rd, svc_wr (w := ⟨⟨#[UInt8.ofNat j]⟩, numS n, false⟩) rfl ?_⟩
    have bx := push_at G (wrBox ⟨⟨#[UInt8.ofNat j]⟩, numS n, false⟩)
    have kx := keep_push G (wrBox ⟨⟨#[UInt8.ofNat j]⟩, numS n, false⟩)
    generalize G.push (wrBox ⟨⟨#[UInt8.ofNat j]⟩, numS n, false⟩) = G2 at bx kx
    have hks := numS_size (k := 5) (n := n) (by omega)
    refine ⟨_, wr_v bx, (atoi_spec (s := numS n) (n := n) (by omega) (atoi_digits n)).mono ?_⟩
    rintro vv h39 ⟨k39, rfl⟩
    have kG39 := kx.trans (k39.mono kx.size)
    refine ⟨_, _, rfl, _, reads_neq_nilI (by kernel_rfl), br_intro (fun e => by
      have : (false || decide ((n : Int) < 0)) = false := by rw [decide_eq_false (by omega)]; rfl
      rw [this] at e; cases e) fun _ => ⟨_, wr_k (k39.at bx (at_lt bx)), ?_⟩⟩
    have hck : ((⟨#[UInt8.ofNat j]⟩ : Str).toList == ([108, 97, 105, 100] : List UInt8)) = false := by
      rw [ByteArray.toList_eq]; simp
    show br ((⟨#[UInt8.ofNat j]⟩ : Str).toList == ([108, 97, 105, 100] : List UInt8)) _ _
    refine br_intro (fun e => by rw [hck] at e; cases e) fun _ => ?_
    have b39 := kG39.at L.box (at_lt L.box)
    refine ⟨fun H => Keep h39.size h39 H, Keep.refl _ _, _, rfl, _, fun H kH => rdd (kH.at b39 (at_lt b39)), (file_box b39 hnm (tabG.updM kG39.m (S := fun _ => False) id) (by omega)).mono ?_⟩
    rintro vv h103 ⟨k103, rfl⟩
    have kG103 := kG39.trans (k103.mono kG39.size)
    refine ⟨_, rfl, k103, (load_spec (T := U) (dG.keep kG103) hdn hfile hUt hUl hUf).mono ?_⟩
    rintro vv h106 ⟨k106, y2, rfl, hy2, ty2⟩
    have kG106 := kG103.trans (k106.mono kG103.size)
    have zG103 := kG103.size
    have z106 := k106.size
    have b106 := kG106.at L.box (at_lt L.box)
    have n106 : Vc.Own (IntE .i64) 3 h22.size h106 v.an v.kn v.cn (intsL (T.names.take j)) := L.nms.upd (kG106.upd fun _ => False) fun _ _ h => h
    have t106 : Vc.Own TbE 95 h22.size h106 v.aT v.kT v.cT v.ts := L.tbl.upd (kG106.upd fun _ => False) fun _ _ h => h
    have hbn : ∀ q, blk v.an q → h22.size ≤ q ∧ q < G.size := L.nms.block
    have hbt : ∀ q, blk v.aT q → h22.size ≤ q ∧ q < G.size := L.tbl.block
    have hnt1 : ¬ blk v.an t := fun hq => by have := (hbn t hq).1; omega
    have hnt2 : ¬ blk v.aT t := fun hq => by have := (hbt t hq).1; omega
    have hkn : v.kn ≤ 90 := by
      have := L.nms.1
      unfold intsL at this
      rw [List.length_map, List.length_take] at this
      omega
    have hkT : v.kT ≤ 90 := by
      have h1 := L.tbl.1
      have h2 := L.tbs.1
      rw [List.length_take] at h2
      omega
    have hmax : (if IntKind.i64.wrap ((n : Int) + (1 : Int)) > ((nxt (T.names.take j) : Nat) : Int) then IntKind.i64.wrap ((n : Int) + (1 : Int)) else ((nxt (T.names.take j) : Nat) : Int)) = ((n + 1 : Nat) : Int) := by
      have := nxt_le hbef
      rw [wrap_i64 (by omega) (by omega)]
      split <;> omega
    -- steps that come in any order
    have bsI : ∀ {H : Heap} {K : Value → Heap → Prop}, (∀ a H', Keep H.size H H' → Sl (IntE .i64) H' a 1 [(n : Int)] → K (.slice a 1 1) H') → SVC Tryz.prog (Instr.buildSlice 79 (1 : Nat) (Array.mk [((0 : Nat), Value.int .i64 (n : Int))])) H K := fun {H K} kk =>
      svc_buildSlice (bs_i (n : Int)) (kk _ _ (keep_push _ _) (own_box (E := IntE .i64) (T := 3) (n := 1) (xs := [(n : Int)]) rfl (Nat.le_refl H.size) (push_at H (.cells ((IntE .i64).enc (n : Int)).toArray 3 (0, 0)))).sl)
    have bsT : ∀ {H : Heap} {K : Value → Heap → Prop}, (∀ a H', Keep H.size H H' → Sl TbE H' a 1 [y2] → (∀ q, blk a q → q = H.size) → K (.slice a 1 1) H') → SVC Tryz.prog (Instr.buildSlice 80 (1 : Nat) (Array.mk [((0 : Nat), Value.pointer (some (Addr.mk y2 0 none)))])) H K := fun {H K} kk =>
      svc_buildSlice (bs_tb y2) (kk _ _ (keep_push _ _) (own_box (E := TbE) (T := 95) (n := 1) (xs := [y2]) rfl (Nat.le_refl H.size) (push_at H (.cells (TbE.enc y2).toArray 95 (0, 0)))).sl fun q ⟨p, e1, e2⟩ => by cases e1; exact e2.symm)
    have F109 : (∃ F : Nat → Heap → Prop, F = fun k H => k = 23 ∨ H[t]? = some (trBox d nm none v ⟨[], [], T.names.take j, T.tabs.take j, nxt (T.names.take j), if j ≤ T.names.length then 0 else T.laid, if j ≤ T.names.length then 0 else T.laid⟩)) := ⟨_, rfl⟩
    have lastS : ∀ {H : Heap} {a1 a2 : Option Addr} {c1 c2 : Nat}, h106.size ≤ H.size → Upd (fun q => blk v.an q ∨ blk v.aT q) h106 H → Vc.Own (IntE .i64) 3 h22.size H a1 (v.kn + 1) c1 (intsL (T.names.take j) ++ [(n : Int)]) → Vc.Own TbE 95 h22.size H a2 (v.kT + 1) c2 (v.ts ++ [y2]) →
        (∀ q, blk a1 q → blk v.an q ∨ h106.size ≤ q) → (∀ q, blk a2 q → blk v.aT q ∨ h106.size ≤ q) → (∀ q, blk a1 q → ¬ blk a2 q) →
        ∃ (p145 : Addr), some (Addr.mk t (0 : Nat) none) = some p145 ∧ SVC Tryz.prog (Instr.storeAt 79 (Value.pointer (some (p145.add (4 : Nat)))) (Value.slice a1 (v.kn + 1) c1)) H fun (x146 : Unit) (h147 : Heap) => ((23 : Nat) = 23 ∨ h147[t]? = some (trBox d nm none v ⟨[], [], T.names.take j, T.tabs.take j, nxt (T.names.take j), if j ≤ T.names.length then 0 else T.laid, if j ≤ T.names.length then 0 else T.laid⟩)) ∧
          ∃ (p148 : Addr), some (Addr.mk t (0 : Nat) none) = some p148 ∧ SVC Tryz.prog (Instr.storeAt 80 (Value.pointer (some (p148.add (5 : Nat)))) (Value.slice a2 (v.kT + 1) c2)) h147 fun (x149 : Unit) (h150 : Heap) => ((23 : Nat) = 23 ∨ h150[t]? = some (trBox d nm none v ⟨[], [], T.names.take j, T.tabs.take j, nxt (T.names.take j), if j ≤ T.names.length then 0 else T.laid, if j ≤ T.names.length then 0 else T.laid⟩)) ∧
            ∃ (p151 : Addr), some (Addr.mk t (0 : Nat) none) = some p151 ∧ SVC Tryz.prog (Instr.storeAt 3 (Value.pointer (some (p151.add (6 : Nat)))) (Value.int .i64 ((n + 1 : Nat) : Int))) h150 fun (x152 : Unit) (h153 : Heap) =>
              (∃ (j' : Nat) (v : Tv), IntKind.i64.wrap ((j : Int) + (1 : Int)) = j' ∧ j' ≤ T.names.length + 1 ∧ Tl T t d nm h22 j' v h153) ∧ T.names.length + 1 - (IntKind.i64.wrap ((j : Int) + (1 : Int))).toNat < T.names.length + 1 - ((j : Int)).toNat := by
      intro H a1 a2 c1 c2 zH uH o1 o2 f1 f2 f3
      have bH := uH.at b106 fun h => h.elim hnt1 hnt2
      refine ⟨_, rfl, svc_store_box (k := 4) zIs bH (by simp) rfl (one_slice _ _ _) fun h147 z147 b147 u147 => ⟨.inl rfl, _, rfl, ?_⟩⟩
      refine svc_store_box (k := 5) zTs b147 (by simp) rfl (one_slice _ _ _) fun h150 z150 b150 u150 => ⟨.inl rfl, _, rfl, ?_⟩
      refine svc_store_box (k := 6) kzI b150 (by simp) rfl (one_int _ _) fun h153 z153 b153 u153 => ?_
      have ut : Upd (fun q => q = t) H h153 := (u147.trans u150).trans u153
      have zt := ut.size
      have a1t : ¬ blk a1 t := fun h => (f1 t h).elim hnt1 fun h => by omega
      have a2t : ¬ blk a2 t := fun h => (f2 t h).elim hnt2 fun h => by omega
      rw [wrap_i64 (by omega) (by omega)]
      refine ⟨⟨j + 1, ⟨none, 0, 0, a1, v.kn + 1, c1, a2, v.kT + 1, c2, v.ts ++ [y2]⟩, rfl, by omega, ⟨?_, ⟨rfl, rfl, rfl⟩, ?_, ?_, ?_, f3, ?_⟩⟩, by omega⟩
      · rw [b153]
        obtain ⟨m1, m2, m3⟩ := L.m0
        rw [htk1, htk2, nxt_snoc, if_pos (by omega), if_pos (by omega), m1, m2, m3]; rfl
      · rw [htk1, intsL_app]
        exact o1.upd ut fun q hq e => a1t (by rw [← e]; exact hq)
      · exact o2.upd ut fun q hq e => a2t (by rw [← e]; exact hq)
      · rw [htk2]
        refine TbsAt.snoc ?_ ?_
        · refine ((((L.tbs.keep kG106).updM uH.m fun q hq h => h.elim hq.2.2.1 hq.2.2.2).updM ut.m fun q hq e => by omega)).mono fun q hq => ⟨hq.1, by omega, fun h => ?_, fun h => ?_⟩
          · rcases f1 q h with h | h
            · exact hq.2.2.1 h
            · omega
          · rcases f2 q h with h | h
            · exact hq.2.2.2 h
            · omega
        · refine ((ty2.updM uH.m fun q hq h => ?_).updM ut.m fun q hq e => by omega).mono fun q hq => ⟨by omega, by omega, fun h => ?_, fun h => ?_⟩
          · rcases h with h | h
            · have := hbn q h; omega
            · have := hbt q h; omega
          · rcases f1 q h with h | h
            · have := hbn q h; omega
            · omega
          · rcases f2 q h with h | h
            · have := hbt q h; omega
            · omega
      · exact ((L.up.trans (kG106.upd _)).trans' (uH.mono fun q h => .inr (h.elim (fun h => by have := hbn q h; omega) fun h => by have := hbt q h; omega))).trans ut
    have bxs : ∀ {H : Heap}, Upd (fun q => blk v.an q ∨ blk v.aT q) h106 H → H[t]? = some (trBox d nm none v ⟨[], [], T.names.take j, T.tabs.take j, nxt (T.names.take j), if j ≤ T.names.length then 0 else T.laid, if j ≤ T.names.length then 0 else T.laid⟩) := fun u => u.at b106 fun h => h.elim hnt1 hnt2
    have apI : ∀ {H1 : Heap} {aS : Option Addr} {K : Value → Heap → Prop}, Keep h106.size h106 H1 → Sl (IntE .i64) H1 aS 1 [(n : Int)] →
        (∀ a' c' H2, h106.size ≤ H2.size → Upd (fun q => blk v.an q ∨ blk v.aT q) h106 H2 → Vc.Own (IntE .i64) 3 h22.size H2 a' (v.kn + 1) c' (intsL (T.names.take j) ++ [(n : Int)]) → (∀ q, blk a' q → blk v.an q ∨ (h106.size ≤ q ∧ q < H2.size)) → Vc.Own TbE 95 h22.size H2 v.aT v.kT v.cT v.ts → (∀ a, Sl TbE H1 a 1 [y2] → (∀ q, blk a q → h106.size ≤ q) → Sl TbE H2 a 1 [y2]) → K (.slice a' (v.kn + 1) c') H2) →
        SVC Tryz.prog (Builtin.append_ (Array.mk [79, 79]) 79 (Array.mk [Value.slice v.an v.kn v.cn, Value.slice aS 1 1])) H1 K := by
      intro H1 aS K k1 sS kk
      have z1 := k1.size
      have o1 : Vc.Own (IntE .i64) 3 h22.size H1 v.an v.kn v.cn (intsL (T.names.take j)) := n106.upd (k1.upd fun _ => False) fun _ _ h => h
      refine svc_append app_is o1 (by omega) sS (by show (4 * (v.kn + 1) + 192) * 8 ≤ 2 ^ 48; omega) fun a' c' H2 o2 u2 b2 => kk a' c' H2 (by have := u2.size; omega) ((k1.upd _).trans (u2.mono fun q h => .inl h)) o2 (fun q hq => ?_) ?_ fun a sa ha => ?_
      · rcases b2 q hq with h | h
        · exact .inl h
        · exact .inr ⟨by omega, (o2.block q hq).2⟩
      · exact (t106.upd (k1.upd fun _ => False) fun _ _ h => h).upd u2 fun q hq h => L.dis q h hq
      · exact sa.upd u2 fun q hq h => by have h1 := ha q hq; have h2 := hbn q h; omega
    have apT : ∀ {H2 H3 : Heap} {a' aS : Option Addr} {c' : Nat}, h106.size ≤ H2.size → Upd (fun q => blk v.an q ∨ blk v.aT q) h106 H2 → Vc.Own (IntE .i64) 3 h22.size H2 a' (v.kn + 1) c' (intsL (T.names.take j) ++ [(n : Int)]) → (∀ q, blk a' q → blk v.an q ∨ (h106.size ≤ q ∧ q < H2.size)) → Vc.Own TbE 95 h22.size H2 v.aT v.kT v.cT v.ts → Keep H2.size H2 H3 → Sl TbE H3 aS 1 [y2] →
        SVC Tryz.prog (Builtin.append_ (Array.mk [80, 80]) 80 (Array.mk [Value.slice v.aT v.kT v.cT, Value.slice aS 1 1])) H3 fun (v140 : Value) (h141 : Heap) => ∃ (a142 : Option Addr), ∃ (k143 : Nat), ∃ (k144 : Nat), v140 = Value.slice a142 k143 k144 ∧ ((20 : Nat) = 23 ∨ h141[t]? = some (trBox d nm none v ⟨[], [], T.names.take j, T.tabs.take j, nxt (T.names.take j), if j ≤ T.names.length then 0 else T.laid, if j ≤ T.names.length then 0 else T.laid⟩)) ∧ ((23 : Nat) = 23 ∨ h141[t]? = some (trBox d nm none v ⟨[], [], T.names.take j, T.tabs.take j, nxt (T.names.take j), if j ≤ T.names.length then 0 else T.laid, if j ≤ T.names.length then 0 else T.laid⟩)) ∧
        ∃ (p145 : Addr), some (Addr.mk t (0 : Nat) none) = some p145 ∧ SVC Tryz.prog (Instr.storeAt 79 (Value.pointer (some (p145.add (4 : Nat)))) (Value.slice a' (v.kn + 1) c')) h141 fun (x146 : Unit) (h147 : Heap) => ((23 : Nat) = 23 ∨ h147[t]? = some (trBox d nm none v ⟨[], [], T.names.take j, T.tabs.take j, nxt (T.names.take j), if j ≤ T.names.length then 0 else T.laid, if j ≤ T.names.length then 0 else T.laid⟩)) ∧
          ∃ (p148 : Addr), some (Addr.mk t (0 : Nat) none) = some p148 ∧ SVC Tryz.prog (Instr.storeAt 80 (Value.pointer (some (p148.add (5 : Nat)))) (Value.slice a142 k143 k144)) h147 fun (x149 : Unit) (h150 : Heap) => ((23 : Nat) = 23 ∨ h150[t]? = some (trBox d nm none v ⟨[], [], T.names.take j, T.tabs.take j, nxt (T.names.take j), if j ≤ T.names.length then 0 else T.laid, if j ≤ T.names.length then 0 else T.laid⟩)) ∧
            ∃ (p151 : Addr), some (Addr.mk t (0 : Nat) none) = some p151 ∧ SVC Tryz.prog (Instr.storeAt 3 (Value.pointer (some (p151.add (6 : Nat)))) (Value.int .i64 ((n + 1 : Nat) : Int))) h150 fun (x152 : Unit) (h153 : Heap) =>
              (∃ (j' : Nat) (v : Tv), IntKind.i64.wrap ((j : Int) + (1 : Int)) = j' ∧ j' ≤ T.names.length + 1 ∧ Tl T t d nm h22 j' v h153) ∧ T.names.length + 1 - (IntKind.i64.wrap ((j : Int) + (1 : Int))).toNat < T.names.length + 1 - ((j : Int)).toNat := by
      intro H2 H3 a' aS c' z2 u2 o2 f2 t2 k3 sS
      have z3 := k3.size
      have t3 : Vc.Own TbE 95 h22.size H3 v.aT v.kT v.cT v.ts := t2.upd (k3.upd fun _ => False) fun _ _ h => h
      refine svc_append app_tb t3 (by omega) sS (by show (4 * (v.kT + 1) + 192) * 8 ≤ 2 ^ 48; omega) fun a4 c4 H4 o4 u4 b4 => ?_
      have z4 := u4.size
      have uH : Upd (fun q => blk v.an q ∨ blk v.aT q) h106 H4 := (u2.trans (k3.upd _)).trans (u4.mono fun q h => .inr h)
      refine ⟨_, _, _, rfl, .inr (bxs uH), .inl rfl, lastS (by omega) uH ?_ o4 (fun q hq => (f2 q hq).imp id fun h => h.1) (fun q hq => (b4 q hq).imp id fun h => by omega) fun q hq h4 => ?_⟩
      · refine (o2.upd (k3.upd fun _ => False) fun _ _ h => h).upd u4 fun q hq h => ?_
        rcases f2 q hq with h5 | h5
        · exact L.dis q h5 h
        · have := hbt q h; omega
      · rcases b4 q h4 with h5 | h5
        · rcases f2 q hq with h6 | h6
          · exact L.dis q h6 h5
          · have := hbt q h5; omega
        · have := o2.block q hq; omega
    refine ⟨_, _, rfl, br_intro (fun e => by simp at e) fun _ => ⟨fun k H => k = 23 ∨ H[t]? = some (trBox d nm none v ⟨[], [], T.names.take j, T.tabs.take j, nxt (T.names.take j), if j ≤ T.names.length then 0 else T.laid, if j ≤ T.names.length then 0 else T.laid⟩), .inr b106, .inr b106, .inr b106, .inl rfl, _, rfl, v.an, v.kn, v.cn, ?_, _, rfl, v.aT, v.kT, v.cT, ?_, _, rfl, ((nxt (T.names.take j) : Nat) : Int), ?_, ((n + 1 : Nat) : Int), ?_, ?_, ?_⟩⟩
    · rintro H (e | bH)
      · exact absurd e (by decide)
      · exact reads_load kIs (cell_cells bH rfl)
    · rintro H (e | bH)
      · exact absurd e (by decide)
      · exact reads_load kTs (cell_cells bH rfl)
    · rintro H (e | bH)
      · exact absurd e (by decide)
      · exact reads_load kI (cell_cells bH rfl)
    · intro H _
      have := reads_max (P := Tryz.prog) (k := .i64) (ts := Array.mk [3, 3]) (a := ((nxt (T.names.take j) : Nat) : Int)) (b := IntKind.i64.wrap ((n : Int) + (1 : Int))) (t := 3) (h := H)
      rw [hmax] at this
      exact this
    · refine bsI fun a127 h126 k126 s126 => ⟨_, _, _, rfl, .inr (bxs (k126.upd _)), .inr (bxs (k126.upd _)), .inr (bxs (k126.upd _)), .inl rfl, apI k126 s126 fun a' c' H2 z2 u2 o2 f2 t2 _ => ⟨_, _, _, rfl, .inr (bxs u2), .inr (bxs u2), .inl rfl, bsT fun a137 h136 k136 s136 _ => ?_⟩, bsT fun a156 h155 k155 s155 q155 => ?_⟩
      · have u3 := u2.trans (k136.upd fun q => blk v.an q ∨ blk v.aT q)
        exact ⟨_, _, _, rfl, .inr (bxs u3), .inr (bxs u3), .inr (bxs u3), .inl rfl, apT z2 u2 o2 f2 t2 k136 s136⟩
      · have k2 := k126.trans (k155.mono k126.size)
        refine ⟨_, _, _, rfl, .inr (bxs (k2.upd _)), .inr (bxs (k2.upd _)), .inr (bxs (k2.upd _)), .inl rfl, apI k2 (s126.keep k155) fun a' c' H2 z2 u2 o2 f2 t2 sT => ⟨_, _, _, rfl, .inr (bxs u2), .inr (bxs u2), .inl rfl, apT z2 u2 o2 f2 t2 (Keep.refl _ _) (sT _ s155 fun q hq => by have := q155 q hq; have := k126.size; omega)⟩⟩
    · refine bsT fun a180 h179 k179 s179 q179 => ⟨_, _, _, rfl, .inr (bxs (k179.upd _)), .inr (bxs (k179.upd _)), .inr (bxs (k179.upd _)), .inl rfl, bsI fun a185 h184 k184 s184 => ?_⟩
      have k2 := k179.trans (k184.mono k179.size)
      refine ⟨_, _, _, rfl, .inr (bxs (k2.upd _)), .inr (bxs (k2.upd _)), .inr (bxs (k2.upd _)), .inl rfl, apI k2 s184 fun a' c' H2 z2 u2 o2 f2 t2 sT => ⟨_, _, _, rfl, .inr (bxs u2), .inr (bxs u2), .inl rfl, apT z2 u2 o2 f2 t2 (Keep.refl _ _) (sT _ (s179.keep k184) fun q hq => by have := q179 q hq; omega)⟩⟩
  · -- what is laid
    have hjn2 : j = T.names.length := by omega
    subst hjn2
    have hq : (lstT T.names T.laid)[T.names.length]? = some ⟨laidKey, numS T.laid, false⟩ := by
      have hel : (lstE T.names).length = T.names.length := by unfold lstE; simp
      rw [hLeq, List.getElem?_append_right (by omega), hel, Nat.sub_self]; rfl
    obtain ⟨p31, ea, rd⟩ := wr_at sG hq
    refine ⟨p31, ⟨ea, by omega, e⟩, _, _, _, by rw [Int.toNat_natCast]; exact rd, svc_wr (w := ⟨laidKey, numS T.laid, false⟩) rfl ?_⟩
    have bx := push_at G (wrBox ⟨laidKey, numS T.laid, false⟩)
    have kx := keep_push G (wrBox ⟨laidKey, numS T.laid, false⟩)
    generalize G.push (wrBox ⟨laidKey, numS T.laid, false⟩) = G2 at bx kx
    have hks := numS_size (k := 5) (n := T.laid) (by omega)
    refine ⟨_, wr_v bx, (atoi_spec (s := numS T.laid) (n := T.laid) (by omega) (atoi_digits T.laid)).mono ?_⟩
    rintro vv h39 ⟨k39, rfl⟩
    have kG39 := kx.trans (k39.mono kx.size)
    refine ⟨_, _, rfl, _, reads_neq_nilI (by kernel_rfl), br_intro (fun e => by
      have : (false || decide ((T.laid : Int) < 0)) = false := by rw [decide_eq_false (by omega)]; rfl
      rw [this] at e; cases e) fun _ => ⟨_, wr_k (k39.at bx (at_lt bx)), ?_⟩⟩
    have hck : (laidKey.toList == ([108, 97, 105, 100] : List UInt8)) = true := by
      rw [ByteArray.toList_eq]; rfl
    show br (laidKey.toList == ([108, 97, 105, 100] : List UInt8)) _ _
    refine br_intro (fun _ => ⟨_, rfl, ?_⟩) fun e => by rw [hck] at e; cases e
    have b39 := kG39.at L.box (at_lt L.box)
    refine svc_store_box (k := 7) kzI b39 (by simp) rfl (one_int _ _) fun h94 z94 b94 u94 => ⟨_, rfl, ?_⟩
    refine svc_store_box (k := 8) kzI b94 (by simp) rfl (one_int _ _) fun h97 z97 b97 u97 => ?_
    have ut : Upd (fun q => q = t) G h97 := ((kG39.upd _).trans u94).trans u97
    have zt := ut.size
    rw [wrap_i64 (by omega) (by omega)]
    have t1 : T.names.take (T.names.length + 1) = T.names.take T.names.length := by rw [List.take_of_length_le (by omega), List.take_length]
    have t2 : T.tabs.take (T.names.length + 1) = T.tabs.take T.names.length := by rw [List.take_of_length_le (by omega), List.take_of_length_le (by omega)]
    have hbn : ∀ q, blk v.an q → h22.size ≤ q ∧ q < G.size := L.nms.block
    have hbt : ∀ q, blk v.aT q → h22.size ≤ q ∧ q < G.size := L.tbl.block
    refine ⟨⟨T.names.length + 1, v, rfl, Nat.le_refl _, ⟨?_, L.m0, ?_, ?_, ?_, L.dis, L.up.trans ut⟩⟩, by dsimp only; omega⟩
    · rw [b97, t1, t2, if_neg (show ¬ (T.names.length + 1 ≤ T.names.length) by omega)]; rfl
    · rw [t1]; exact L.nms.upd ut fun q hq e => by have := hbn q hq; omega
    · exact L.tbl.upd ut fun q hq e => by have := hbt q hq; omega
    · rw [t2]
      exact (L.tbs.updM ut.m fun q hq e => by omega).mono fun q hq => ⟨hq.1, by omega, hq.2.2⟩
end
end Go.Proofs.YtkhinnchplahlaaGreatDoor
end

section
set_option linter.unusedVariables false
set_option linter.unusedSimpArgs false
set_option maxRecDepth 100000
namespace Go.Proofs.YtkhinnchplahlaaGreatDoor
open Go Go.Vc Go.Proofs Go.Dk Go.Kv Go.Ls Go.Cd
open Go.Pg (Quiet Nx layW partB nparts partsW partsW_len)

theorem LogAt.ne {h : Heap} {l d n c : Nat} {nm : Str} {A : Option Addr} {b : List UInt8} (hl : LogAt h l d nm A n c b) (hn : n ≠ 0) : ∀ q, blk A q → q ≠ l := by
  rintro q ⟨p, e, rfl⟩ e2
  have hlen := hl.sl.1
  cases hb : b with
  | nil => rw [hb] at hlen; simp at hlen; omega
  | cons x xs =>
    obtain ⟨p', e', hp⟩ := hl.sl.get (i := 0) (x := x) (by rw [hb]; rfl)
    rw [e] at e'
    cases e'
    have hc := hp 0 _ rfl
    rw [Nat.zero_mul, p9_0] at hc
    obtain ⟨pb, po, sp⟩ := p
    dsimp only at e2
    subst e2
    cases sp with
    | some s => unfold cell at hc; rw [hl.box] at hc; cases hc
    | none =>
      rw [cell_at hl.box] at hc
      match po, hc with
      | 0, hc => simp at hc
      | 1, hc => simp at hc
      | 2, hc => simp at hc
      | k + 3, hc => simp at hc
theorem logB_map (r : List (Nat × List Wr)) : logB r = (r.map fun p => recB p.1 p.2).flatMap frameB := by
  unfold logB
  rw [List.flatMap_map]
theorem mem_take {T : TS} {nm : Str} {F : Fs} (tf : TF nm F T) : ((T.recs.take T.recs.length).map (·.2)).flatten = T.mem := by
  rw [List.take_length]; exact tf.mem.symm
open Classical in
/-- what the blocks of a tree that was opened are for. -/
noncomputable def tagO (t l a e : Nat) (M B : Option Addr) (q : Nat) : Nat := if q = t then 1 else if q = l then 2 else if blk M q then 3 else if blk B q then 4 else if a ≤ q ∧ q < e then 5 else 0
section
variable {h : Heap} {d : Nat} {nm : Str} {N : Nat → Prop} {x : D}
set_option maxHeartbeats 4000000 in
theorem topen_spec {T : TS} (dn : DN N d x h) (hnm : nm.size ≤ 1000000) (tab : TabH h) (gbN : N gb) (tf : TF nm x.now T) (hq : Quiet x) (hnl : T.names.length ≤ 90) (hnx : T.next ≤ 100000) (hla : T.last < 1000000) (hTl : T.tabs.flatten.length ≤ 100000) (hm : T.mem.length ≤ 100000)
    (hsz : ∀ f ∈ names x.now, f.size ≤ 9223372036854775807) (hfl : x.now.length ≤ 1000000) (hlog : (logB T.recs).length ≤ 100000000) :
    HC Tryz.prog 11 #[.pointer (some ⟨d, 0, none⟩), .string nm] h fun vv h' => Keep h.size h h' ∧ ∃ t g, vv = .tuple #[.pointer (some ⟨t, 0, none⟩), .int .i64 0] ∧ TrAt g h' t d nm (tw T) ∧ (∀ q, g q ≠ 0 → h.size ≤ q ∧ q < h'.size) ∧ h.size ≤ t := by
  have hdn := hq.down
  have hld : T.laid < 1000000 := by unfold TS.last at hla; omega
  have hrl : T.recs.length < 1000000 := by unfold TS.last at hla; omega
  refine HC_of_vc (args := [.pointer (some ⟨d, 0, none⟩), .string nm]) (base := 86) (cuts := []) (bigs := []) kM Tryz.func11 ?_
  rw [vcLmOpen]
  have hdp : Tryz.prog.underlying 25 = some (.pointer (Tryz.prog.pointee 25)) := by kernel_rfl
  refine ⟨_, reads_eql_nil hdp, br_intro (fun e => by cases e) fun _ => dn.down.mono ?_⟩
  rintro vv h2 ⟨rfl, rfl⟩
  rw [hdn]
  have k1 := keep_push h2 (trBox d nm none ⟨none, 0, 0, none, 0, 0, none, 0, 0, []⟩ ⟨[], [], [], [], 0, 0, 0⟩)
  have b1 := push_at h2 (trBox d nm none ⟨none, 0, 0, none, 0, 0, none, 0, 0, []⟩ ⟨[], [], [], [], 0, 0, 0⟩)
  have z1 : (h2.push (trBox d nm none ⟨none, 0, 0, none, 0, 0, none, 0, 0, []⟩ ⟨[], [], [], [], 0, 0, 0⟩)).size = h2.size + 1 := by simp
  refine ⟨_, rfl, br_intro (fun e => by cases e) fun _ => ?_⟩
  show HC _ _ _ (h2.push (trBox d nm none ⟨none, 0, 0, none, 0, 0, none, 0, 0, []⟩ ⟨[], [], [], [], 0, 0, 0⟩)) _
  generalize h2.push (trBox d nm none ⟨none, 0, 0, none, 0, 0, none, 0, 0, []⟩ ⟨[], [], [], [], 0, 0, 0⟩) = H1 at k1 b1 z1
  have hgbl : gb < h2.size := dn.lt gbN
  have dn1 : DN (Nv N h2 H1) d x H1 := dn.wide2 k1
  refine (tell_spec b1 (.inr ⟨Nat.le_refl _, by omega⟩) hnm (tab.updM k1.m (S := fun _ => False) id) (by omega) dn1 tf hq hnl hnx hld hTl).mono ?_
  rintro vv h5 ⟨rfl, u5, v, h22, z22, L⟩
  have z5 := u5.size
  have k5 : Keep h2.size h2 h5 := k1.trans (u5.keep (by omega) fun q e => by omega)
  have tn : T.names.take (T.names.length + 1) = T.names := List.take_of_length_le (by omega)
  have tT : T.tabs.take (T.names.length + 1) = T.tabs := List.take_of_length_le (by have := tf.lens; omega)
  have hbox : h5[h2.size]? = some (trBox d nm none v ⟨[], [], T.names, T.tabs, T.next, T.laid, T.laid⟩) := by
    have := L.box
    rw [tn, tT, if_neg (show ¬ (T.names.length + 1 ≤ T.names.length) by omega)] at this
    exact this
  have hnms := L.nms
  rw [tn] at hnms
  have htbs := L.tbs
  rw [tT] at htbs
  have zL := L.up.size
  have hbn : ∀ q, blk v.an q → h22.size ≤ q ∧ q < h5.size := L.nms.block
  have hbt : ∀ q, blk v.aT q → h22.size ≤ q ∧ q < h5.size := L.tbl.block
  have dn5 := dn.keep k5
  have tab5 := tab.updM k5.m (S := fun _ => False) id
  refine ⟨_, rfl, br_intro (fun e => by simp at e) fun _ => (tidy_spec (T := T) hbox hnms.sl hnm tab5 dn5 tf hnx (by omega) hsz hfl).mono ?_⟩
  rintro vv h8 ⟨rfl, k8⟩
  have k08 := k5.trans (k8.mono k5.size)
  refine ⟨_, rfl, br_intro (fun e => by simp at e) fun _ => (lopen_spec (ss := T.recs.map fun p => recB p.1 p.2) (dn.keep k08) hq tf.log (logB_map T.recs) (fun s hs => ?_) hlog).mono ?_⟩
  · obtain ⟨p, hp, rfl⟩ := List.mem_map.1 hs
    have h1 : p.2.length ≤ T.mem.length := by
      rw [tf.mem]
      exact (List.sublist_flatten_of_mem (List.mem_map_of_mem (f := fun p : Nat × List Wr => p.2) hp)).length_le
    have h3 : p.1 ∈ T.recs.map (·.1) := List.mem_map_of_mem (f := fun p : Nat × List Wr => p.1) hp
    rw [tf.nums, List.mem_range'] at h3
    obtain ⟨i, hi, e⟩ := h3
    have := recB_size (n := p.1) (tf.fit p hp) (by omega) (by omega)
    omega
  rintro vv h11 ⟨k11, l, A, n, c, R, kR, cR, rfl, l11, sR, hl8, hA8, hR8⟩
  have z8 := k8.size
  have z11 := k11.size
  have b11 := k11.at (k8.at hbox (at_lt hbox)) (by have := at_lt hbox; omega)
  have htl : h2.size < h5.size := at_lt hbox
  refine ⟨_, _, _, _, _, rfl, br_intro (fun e => by simp at e) fun _ => ⟨_, rfl, ?_⟩⟩
  refine svc_store_box (k := 2) zLp b11 (by simp) rfl (one_pointer _) fun h19 z19 b19 u19 => ?_
  have b19' : h19[h2.size]? = some (trBox d nm (some ⟨l, 0, none⟩) v ⟨[], [], T.names, T.tabs, T.next, T.laid, T.laid⟩) := by rw [b19]; rfl
  have hRl : kR = T.recs.length := by have := sR.1; rw [List.length_map] at this; exact this.symm
  have u19' : Upd (fun q => q = h2.size) h11 h19 := u19
  have sR19 : Sl StrE h19 R kR (T.recs.map fun p => recB p.1 p.2) := sR.upd u19 fun q hq e => by have := hR8 q hq; omega
  have l19 : LogAt h19 l d nm A n c (logB T.recs) := l11.updM u19.m (fun e => by omega) fun h0 q hq e => by have := hA8 q hq; omega
  have k811 : Keep h5.size h5 h11 := k8.trans (k11.mono k8.size)
  have n19 : Vc.Own (IntE .i64) 3 h22.size h19 v.an v.kn v.cn (intsL T.names) := (hnms.upd (k811.upd fun _ => False) fun _ _ h => h).upd u19 fun q hq e => by have := hbn q hq; omega
  have t19 : Vc.Own TbE 95 h22.size h19 v.aT v.kT v.cT v.ts := (L.tbl.upd (k811.upd fun _ => False) fun _ _ h => h).upd u19 fun q hq e => by have := hbt q hq; omega
  have b19s : TbsAt (fun q => h22.size ≤ q ∧ q < h5.size ∧ ¬ blk v.an q ∧ ¬ blk v.aT q) h19 v.ts T.tabs := (htbs.keep k811).updM u19.m fun q hq e => by omega
  have zz19 := u19.size
  have hmem0 := L.m0
  refine ⟨fun _ _ n24 G => ∃ (j : Nat) (am : Option Addr) (km cm : Nat), n24 = j ∧ j ≤ T.recs.length ∧ G[h2.size]? = some (trBox d nm (some ⟨l, 0, none⟩) ⟨am, km, cm, v.an, v.kn, v.cn, v.aT, v.kT, v.cT, v.ts⟩ ⟨[], ((T.recs.take j).map (·.2)).flatten, T.names, T.tabs, T.next, T.laid + j, T.laid⟩) ∧
      Vc.Own WrE 42 h19.size G am km cm ((T.recs.take j).map (·.2)).flatten ∧ Upd (fun q => q = h2.size) h19 G, fun _ _ n24 _ => T.recs.length - n24.toNat,
    ⟨0, none, 0, 0, rfl, Nat.zero_le _, ?_, Vc.Own.nil _ _ _, Upd.refl _ _⟩, ?_⟩
  · obtain ⟨m1, m2, m3⟩ := hmem0
    rw [b19']
    simp only [trBox, m1, m2, m3]
    rfl
  rintro a22 n23 n24 G ⟨j, am, km, cm, rfl, hj, bG, oG, uG⟩
  have zG := uG.size
  have hob := oG.block
  refine br_intro (fun e => ?_) fun e => ?_
  · have e := of_decide_eq_true e
    have hjl : j < T.recs.length := by omega
    have hqr : T.recs[j]? = some (T.recs[j]'hjl) := List.getElem?_eq_getElem hjl
    have hmr := List.getElem_mem hjl
    have htk : T.recs.take (j + 1) = T.recs.take j ++ [T.recs[j]'hjl] := List.take_succ_eq_append_getElem hjl
    have hnum : (T.recs[j]'hjl).1 = T.laid + 1 + j := by
      have h1 : (T.recs.map (·.1))[j]? = some (T.recs[j]'hjl).1 := by rw [List.getElem?_map, hqr]; rfl
      rw [tf.nums, List.getElem?_range' hjl] at h1
      injection h1 with h1
      omega
    generalize T.recs[j]'hjl = r at hqr hmr htk hnum
    have hr2 : r.2.length ≤ T.mem.length := by
      rw [tf.mem]
      exact (List.sublist_flatten_of_mem (List.mem_map_of_mem (f := fun p : Nat × List Wr => p.2) hmr)).length_le
    have hqs : (T.recs.map fun p => recB p.1 p.2)[j]? = some (recB r.1 r.2) := by rw [List.getElem?_map, hqr]; rfl
    obtain ⟨p26, ea, hp26⟩ := (sR19.upd uG fun q hq e => by have := hR8 q hq; omega).get hqs
    refine ⟨p26, ⟨ea, by omega, e⟩, _, reads_load kS (by rw [Int.toNat_natCast]; exact hp26 0 _ rfl), (writes_spec (m := r.1) (l := r.2) (by omega) (by unfold TS.last at hla; omega) (tf.fit r hmr) (by omega)).mono ?_⟩
    rintro vv h29 ⟨k29, a31, k32, c33, rfl, o31⟩
    have b29 := k29.at bG (at_lt bG)
    have z29 := k29.size
    refine ⟨_, _, _, _, _, rfl, br_intro (fun e => by cases e) fun _ => ⟨_, rfl, _, reads_load kI (cell_cells b29 rfl), br_intro (fun _ => ?_) fun e => by
      have e : ¬ (((r.1 : Nat) : Int) > ((T.laid : Nat) : Int)) := of_decide_eq_false e
      omega⟩⟩
    have oG29 : Vc.Own WrE 42 h19.size h29 am km cm ((T.recs.take j).map (·.2)).flatten := oG.upd (k29.upd fun _ => False) fun _ _ h => h
    have hk32 := o31.1
    have hkm := oG.1
    have hml : ((T.recs.take j).map (·.2)).flatten.length ≤ T.mem.length := by
      rw [tf.mem, List.map_take]
      exact flat_le j
    refine ⟨_, rfl, _, _, _, reads_load kWsL (cell_cells b29 rfl), svc_append app_wr oG29 (by omega) o31.sl (by show (4 * (km + k32) + 192) * 40 ≤ 2 ^ 48; omega) fun a43 c45 h42 o42 u42 b42 => ⟨_, _, _, rfl, _, rfl, ?_⟩⟩
    have b42' := u42.at b29 fun hq => by have := (hob _ hq).1; omega
    have z42 := u42.size
    refine svc_store_box (k := 3) zWs b42' (by simp) rfl (one_slice _ _ _) fun h48 z48 b48 u48 => ⟨_, rfl, ?_⟩
    refine svc_store_box (k := 7) kzI b48 (by simp) rfl (one_int _ _) fun h51 z51 b51 u51 => ?_
    have ut : Upd (fun q => q = h2.size) h42 h51 := u48.trans u51
    rw [wrap_i64 (by omega) (by omega)]
    have hfl2 : ((T.recs.take (j + 1)).map (·.2)).flatten = ((T.recs.take j).map (·.2)).flatten ++ r.2 := by rw [htk, List.map_append, List.flatten_append]; simp
    refine ⟨⟨j + 1, a43, km + k32, c45, rfl, hjl, ?_, ?_, ?_⟩, by dsimp only; omega⟩
    · rw [b51, hfl2]
      have e9 : ((r.1 : Nat) : Int) = ((T.laid + (j + 1) : Nat) : Int) := by omega
      rw [e9]; rfl
    · rw [hfl2]
      refine o42.upd ut fun q hq e => ?_
      rcases b42 q hq with h1 | h1
      · have := (hob q h1).1; omega
      · omega
    · exact ((uG.trans (k29.upd _)).trans' (u42.mono fun q hq => .inr (by have := hob q hq; omega))).trans ut
  · have hjn : j = T.recs.length := by have := of_decide_eq_false e; omega
    subst hjn
    rw [mem_take tf] at bG oG
    have htOk : ∀ q, blk am q → h19.size ≤ q ∧ q < G.size := hob
    have htl2 : h2.size < l := by omega
    have g1 : tagO h2.size l h2.size G.size am v.aT h2.size = 1 := by unfold tagO; rw [if_pos rfl]
    have g2 : tagO h2.size l h2.size G.size am v.aT l = 2 := by unfold tagO; rw [if_neg (by omega), if_pos rfl]
    have hll : l < h11.size := at_lt l11.box
    have g3 : ∀ q, blk am q → tagO h2.size l h2.size G.size am v.aT q = 3 := fun q hq => by
      have := hob q hq
      unfold tagO; rw [if_neg (by omega), if_neg (by omega), if_pos hq]
    have g4 : ∀ q, blk v.aT q → tagO h2.size l h2.size G.size am v.aT q = 4 := fun q hq => by
      have h1 := hbt q hq
      unfold tagO; rw [if_neg (by omega), if_neg (by omega), if_neg (fun h => by have := hob q h; omega), if_pos hq]
    have g5 : ∀ q, q ≠ h2.size → q ≠ l → ¬ blk am q → ¬ blk v.aT q → h2.size ≤ q → q < G.size → tagO h2.size l h2.size G.size am v.aT q = 5 := fun q e1 e2 e3 e4 e5 e6 => by
      unfold tagO; rw [if_neg e1, if_neg e2, if_neg e3, if_neg e4, if_pos ⟨e5, e6⟩]
    have gne : ∀ q, tagO h2.size l h2.size G.size am v.aT q ≠ 0 → h2.size ≤ q ∧ q < G.size := fun q hq => by
      unfold tagO at hq
      by_cases e1 : q = h2.size
      · omega
      · rw [if_neg e1] at hq
        by_cases e2 : q = l
        · omega
        · rw [if_neg e2] at hq
          by_cases e3 : blk am q
          · have := hob q e3; omega
          · rw [if_neg e3] at hq
            by_cases e4 : blk v.aT q
            · have := hbt q e4; omega
            · rw [if_neg e4] at hq
              by_cases e5 : h2.size ≤ q ∧ q < G.size
              · exact e5
              · rw [if_neg e5] at hq; exact absurd rfl hq
    refine ⟨(k08.trans (k11.mono k08.size)).trans ((u19.trans uG).keep (by omega) fun q e => by omega), h2.size, tagO h2.size l h2.size G.size am v.aT, rfl, ⟨l, A, n, c, ⟨am, km, cm, v.an, v.kn, v.cn, v.aT, v.kT, v.cT, v.ts⟩, ⟨⟨?_, ?_, ?_, ?_, ?_, g1, g3, fun q hq => ?_, g4, fun q hq => (gne q hq).2⟩, ?_, g2, fun h0 q hq => ?_⟩⟩, gne, Nat.le_refl _⟩
    · rw [bG]; rfl
    · exact oG.mono (Nat.zero_le _)
    · exact (n19.upd uG fun q hq e => by have := hbn q hq; omega).mono (Nat.zero_le _)
    · exact (t19.upd uG fun q hq e => by have := hbt q hq; omega).mono (Nat.zero_le _)
    · exact (b19s.updM uG.m fun q hq e => by omega).mono fun q hq => g5 q (by omega) (by omega) (fun h => by have := hob q h; omega) hq.2.2.2 (by omega) (by omega)
    · have h1 := hbn q hq
      exact g5 q (by omega) (by omega) (fun h => by have := hob q h; omega) (L.dis q hq) (by omega) (by omega)
    · exact l19.updM uG.m (fun e => by omega) fun h0 q hq e => by have := hA8 q hq; omega
    · have h1 := hA8 q hq
      exact g5 q (by omega) (l11.ne h0 q hq) (fun h => by have := hob q h; omega) (fun h => by have := hbt q h; omega) (by omega) (by omega)
end
end Go.Proofs.YtkhinnchplahlaaGreatDoor
end

section
set_option linter.unusedVariables false
set_option maxRecDepth 100000
namespace Go.Proofs.YtkhinnchplahlaaGreatDoor
open Go Go.Vc Go.Proofs

theorem vc11Great (A : Option Addr) (n c : Nat) (h : Heap) (R : Value → Heap → Prop) :
    vcF Tryz.prog Tryz.f9 49 [] [] [.slice A n c] h R =
(∃ (I0 : Bool → Int → Int → Heap → Prop),
 ∃ (I1 : Bool → Int → Int → Heap → Nat),
 I0 false (0 : Int) (0 : Int) h ∧
 ∀ (b2 : Bool) (n3 n4 : Int) (h5 : Heap),
 I0 b2 n3 n4 h5 →
 br (decide (n4 < (↑n : Int)))
 (∃ (p6 : Addr),
 (A = some p6 ∧ (0 : Int) ≤ n4 ∧ n4 < (↑n : Int)) ∧
 ∃ (a7 : Option Addr),
 ∃ (k8 : Nat),
 ∃ (k9 : Nat),
 ∃ (s10 : ByteArray),
 ∃ (n11 : Int),
 ∃ (b12 : Bool),
 ∃ (b13 : Bool),
 ∃ (n14 : Int),
 ∃ (n15 : Int),
 Reads Tryz.prog (Instr.loadAt (35 : Nat) (Value.pointer (some (p6.add (n4.toNat * (7 : Nat)))))) h5
 (Value.agg
 (Array.mk
 [Value.slice a7 k8 k9, Value.string s10, Value.int IntKind.i64 n11, Value.bool b12, Value.bool b13, Value.int IntKind.i64 n14, Value.int IntKind.u64 n15])) ∧
 SVC Tryz.prog
 (Instr.storeAt (35 : Nat) (Value.pointer (some (Addr.mk (Array.size h5) (0 : Nat) none)))
 (Value.agg
 (Array.mk
 [Value.slice a7 k8 k9, Value.string s10, Value.int IntKind.i64 n11, Value.bool b12, Value.bool b13, Value.int IntKind.i64 n14, Value.int IntKind.u64 n15])))
 (Array.push h5
 (Obj.cells
 (Array.mk
 [Value.slice none (0 : Nat) (0 : Nat), Value.string (ByteArray.mk (Array.mk [])), Value.int IntKind.i64 (0 : Int), Value.bool false, Value.bool false,
 Value.int IntKind.i64 (0 : Int), Value.int IntKind.u64 (0 : Int)])
 (35 : Nat)))
 fun (x16 : Unit) (h17 : Heap) =>
 ∃ (a18 : Option Addr),
 ∃ (k19 : Nat),
 ∃ (k20 : Nat),
 Reads Tryz.prog (Instr.loadAt (32 : Nat) (Value.pointer (some (Addr.mk (Array.size h5) (0 : Nat) none)))) h17 (Value.slice a18 k19 k20) ∧
 ∃ (s21 : ByteArray),
 Reads Tryz.prog (Instr.loadAt (9 : Nat) (Value.pointer (some ((Addr.mk (Array.size h5) (0 : Nat) none).add (1 : Nat))))) h17 (Value.string s21) ∧
 br (decide (IntKind.i64.wrap (n3 + IntKind.i64.wrap ((↑k19 : Int) + (↑s21.size : Int))) > (1000 : Int))) (R (Value.bool true) h17)
 (∃ (a22 : Option Addr),
 ∃ (k23 : Nat),
 ∃ (k24 : Nat),
 Reads Tryz.prog (Instr.loadAt (32 : Nat) (Value.pointer (some (Addr.mk (Array.size h5) (0 : Nat) none)))) h17 (Value.slice a22 k23 k24) ∧
 ∃ (I25 : Bool → Int → Int → Heap → Prop),
 ∃ (I26 : Bool → Int → Int → Heap → Nat),
 I25 b2 (IntKind.i64.wrap (n3 + IntKind.i64.wrap ((↑k19 : Int) + (↑s21.size : Int)))) (0 : Int) h17 ∧
 ∀ (b27 : Bool) (n28 n29 : Int) (h30 : Heap),
 I25 b27 n28 n29 h30 →
 br (decide (n29 < (↑k23 : Int)))
 (∃ (p31 : Addr),
 (a22 = some p31 ∧ (0 : Int) ≤ n29 ∧ n29 < (↑k23 : Int)) ∧
 ∃ (s32 : ByteArray),
 ∃ (s33 : ByteArray),
 ∃ (b34 : Bool),
 Reads Tryz.prog (Instr.loadAt (42 : Nat) (Value.pointer (some (p31.add (n29.toNat * (3 : Nat)))))) h30
 (Value.agg (Array.mk [Value.string s32, Value.string s33, Value.bool b34])) ∧
 SVC Tryz.prog
 (Instr.storeAt (42 : Nat) (Value.pointer (some (Addr.mk (Array.size h30) (0 : Nat) none)))
 (Value.agg (Array.mk [Value.string s32, Value.string s33, Value.bool b34])))
 (Array.push h30
 (Obj.cells
 (Array.mk
 [Value.string (ByteArray.mk (Array.mk [])), Value.string (ByteArray.mk (Array.mk [])), Value.bool false])
 (42 : Nat)))
 fun (x35 : Unit) (h36 : Heap) =>
 ∃ (s37 : ByteArray),
 Reads Tryz.prog (Instr.loadAt (9 : Nat) (Value.pointer (some (Addr.mk (Array.size h30) (0 : Nat) none)))) h36
 (Value.string s37) ∧
 ∃ (s38 : ByteArray),
 Reads Tryz.prog
 (Instr.loadAt (9 : Nat)
 (Value.pointer (some ((Addr.mk (Array.size h30) (0 : Nat) none).add (1 : Nat)))))
 h36 (Value.string s38) ∧
 (64 : Int) ≠ (0 : Int) ∧
 br
 (decide
 (IntKind.i64.wrap
 (n28 +
 IntKind.i64.wrap
 ((IntKind.i64.wrap ((↑s37.size : Int) + (↑s38.size : Int))).tdiv (64 : Int))) >
 (1000 : Int)))
 (R (Value.bool true) h36)
 (I25 b27
 (IntKind.i64.wrap
 (n28 +
 IntKind.i64.wrap
 ((IntKind.i64.wrap ((↑s37.size : Int) + (↑s38.size : Int))).tdiv (64 : Int))))
 (IntKind.i64.wrap (n29 + (1 : Int))) h36 ∧
 I26 b27
 (IntKind.i64.wrap
 (n28 +
 IntKind.i64.wrap
 ((IntKind.i64.wrap ((↑s37.size : Int) + (↑s38.size : Int))).tdiv (64 : Int))))
 (IntKind.i64.wrap (n29 + (1 : Int))) h36 <
 I26 b27 n28 n29 h30))
 (I0 b27 n28 (IntKind.i64.wrap (n4 + (1 : Int))) h30 ∧ I1 b27 n28 (IntKind.i64.wrap (n4 + (1 : Int))) h30 < I1 b2 n3 n4 h5)))
 (R (Value.bool (decide ((↑n : Int) > (60 : Int)))) h5)) := by kernel_rfl

theorem vc11Has (t : Nat) (A : Option Addr) (n c : Nat) (h : Heap) (R : Value → Heap → Prop) :
    vcF Tryz.prog Tryz.f15 36 [] [] [.pointer (some ⟨t, 0, none⟩), .slice A n c] h R =
(HC Tryz.prog (21 : Nat) (Array.mk [Value.pointer (some (Addr.mk t (0 : Nat) none)), Value.string (ByteArray.mk (Array.mk [])), Value.int IntKind.i64 (9223372036854775807 : Int)]) h
 fun (v0 : Value) (h1 : Heap) =>
 ∃ (a2 : Option Addr),
 ∃ (k3 : Nat),
 ∃ (k4 : Nat),
 v0 = Value.slice a2 k3 k4 ∧
 HC Tryz.prog (20 : Nat) (Array.mk [Value.slice a2 k3 k4, Value.slice A n c]) h1 fun (v5 : Value) (h6 : Heap) =>
 ∃ (b7 : Bool),
 v5 = Value.bool b7 ∧
 br (!b7) (R (Value.bool false) h6)
 (∃ (I8 : Bool → Int → Heap → Prop),
 ∃ (I9 : Bool → Int → Heap → Nat),
 I8 false (0 : Int) h6 ∧
 ∀ (b10 : Bool) (n11 : Int) (h12 : Heap),
 I8 b10 n11 h12 →
 br (decide (n11 < (↑n : Int)))
 (∃ (p13 : Addr),
 (A = some p13 ∧ (0 : Int) ≤ n11 ∧ n11 < (↑n : Int)) ∧
 ∃ (s14 : ByteArray),
 ∃ (s15 : ByteArray),
 Reads Tryz.prog (Instr.loadAt (53 : Nat) (Value.pointer (some (p13.add (n11.toNat * (2 : Nat)))))) h12
 (Value.agg (Array.mk [Value.string s14, Value.string s15])) ∧
 SVC Tryz.prog
 (Instr.storeAt (53 : Nat) (Value.pointer (some (Addr.mk (Array.size h12) (0 : Nat) none))) (Value.agg (Array.mk [Value.string s14, Value.string s15])))
 (Array.push h12 (Obj.cells (Array.mk [Value.string (ByteArray.mk (Array.mk [])), Value.string (ByteArray.mk (Array.mk []))]) (53 : Nat)))
 fun (x16 : Unit) (h17 : Heap) =>
 ∃ (s18 : ByteArray),
 Reads Tryz.prog (Instr.loadAt (9 : Nat) (Value.pointer (some (Addr.mk (Array.size h12) (0 : Nat) none)))) h17 (Value.string s18) ∧
 HC Tryz.prog (18 : Nat) (Array.mk [Value.pointer (some (Addr.mk t (0 : Nat) none)), Value.string s18]) h17 fun (v19 : Value) (h20 : Heap) =>
 ∃ (s21 : ByteArray),
 ∃ (b22 : Bool),
 v19 = Value.tuple (Array.mk [Value.string s21, Value.bool b22]) ∧
 ∃ (s23 : ByteArray),
 ((!!b22) = true →
 Reads Tryz.prog (Instr.loadAt (9 : Nat) (Value.pointer (some ((Addr.mk (Array.size h12) (0 : Nat) none).add (1 : Nat))))) h20
 (Value.string s23)) ∧
 br (!b22 || !s21.toList == s23.toList) (R (Value.bool false) h20)
 (I8 b10 (IntKind.i64.wrap (n11 + (1 : Int))) h20 ∧ I9 b10 (IntKind.i64.wrap (n11 + (1 : Int))) h20 < I9 b10 n11 h12))
 (R (Value.bool true) h12))) := by kernel_rfl

theorem vc11Alive (h : Heap) (R : Value → Heap → Prop) :
    vcF Tryz.prog Tryz.f8 63 [] [] [] h R =
(HC Tryz.prog (10 : Nat) (Array.mk [Value.int IntKind.i64 (60 : Int)]) h fun (v0 : Value) (h1 : Heap) =>
 ∃ (a2 : Option Addr),
 v0 = Value.pointer a2 ∧
 HC Tryz.prog (11 : Nat) (Array.mk [Value.pointer a2, Value.string (ByteArray.mk (Array.mk [(116 : UInt8)]))]) h1 fun (v3 : Value) (h4 : Heap) =>
 ∃ (a5 : Option Addr),
 ∃ (n6 : Int),
 v3 = Value.tuple (Array.mk [Value.pointer a5, Value.int IntKind.i64 n6]) ∧
 br (bif bif n6 == (0 : Int) then false else true then false else true)
 (SVC Tryz.prog
 (Instr.buildSlice (32 : Nat) (1 : Nat)
 (Array.mk [((0 : Nat), Value.agg (Array.mk [Value.string (ByteArray.mk (Array.mk [(97 : UInt8)])), Value.string (ByteArray.mk (Array.mk [(49 : UInt8)])), Value.bool false]))]))
 h4 fun (v7 : Value) (h8 : Heap) =>
 ∃ (a9 : Option Addr),
 ∃ (k10 : Nat),
 ∃ (k11 : Nat),
 v7 = Value.slice a9 k10 k11 ∧
 HC Tryz.prog (13 : Nat) (Array.mk [Value.pointer a5, Value.slice a9 k10 k11]) h8 fun (v12 : Value) (h13 : Heap) =>
 ∃ (n14 : Int),
 v12 = Value.int IntKind.i64 n14 ∧
 br (bif bif n14 == (0 : Int) then false else true then false else true)
 (HC Tryz.prog (17 : Nat) (Array.mk [Value.pointer a5]) h13 fun (v15 : Value) (h16 : Heap) =>
 ∃ (n17 : Int),
 v15 = Value.int IntKind.i64 n17 ∧
 br (bif bif n17 == (0 : Int) then false else true then false else true)
 (SVC Tryz.prog
 (Instr.buildSlice (32 : Nat) (2 : Nat)
 (Array.mk
 [((0 : Nat), Value.agg (Array.mk [Value.string (ByteArray.mk (Array.mk [(97 : UInt8)])), Value.string (ByteArray.mk (Array.mk [])), Value.bool true])),
 ((1 : Nat),
 Value.agg
 (Array.mk [Value.string (ByteArray.mk (Array.mk [(98 : UInt8)])), Value.string (ByteArray.mk (Array.mk [(50 : UInt8)])), Value.bool false]))]))
 h16 fun (v18 : Value) (h19 : Heap) =>
 ∃ (a20 : Option Addr),
 ∃ (k21 : Nat),
 ∃ (k22 : Nat),
 v18 = Value.slice a20 k21 k22 ∧
 HC Tryz.prog (13 : Nat) (Array.mk [Value.pointer a5, Value.slice a20 k21 k22]) h19 fun (v23 : Value) (h24 : Heap) =>
 ∃ (n25 : Int),
 v23 = Value.int IntKind.i64 n25 ∧
 br (n25 != (0 : Int)) (R (Value.bool false) h24)
 (HC Tryz.prog (31 : Nat) (Array.mk [Value.pointer a2, Value.int IntKind.u64 (0 : Int)]) h24 fun (v26 : Value) (h27 : Heap) =>
 v26 = Value.tuple (Array.mk []) ∧
 HC Tryz.prog (32 : Nat) (Array.mk [Value.pointer a2]) h27 fun (v28 : Value) (h29 : Heap) =>
 v28 = Value.tuple (Array.mk []) ∧
 HC Tryz.prog (11 : Nat) (Array.mk [Value.pointer a2, Value.string (ByteArray.mk (Array.mk [(116 : UInt8)]))]) h29
 fun (v30 : Value) (h31 : Heap) =>
 ∃ (a32 : Option Addr),
 ∃ (n33 : Int),
 v30 = Value.tuple (Array.mk [Value.pointer a32, Value.int IntKind.i64 n33]) ∧
 HC Tryz.prog (18 : Nat) (Array.mk [Value.pointer a32, Value.string (ByteArray.mk (Array.mk [(97 : UInt8)]))]) h31
 fun (v34 : Value) (h35 : Heap) =>
 ∃ (s36 : ByteArray),
 ∃ (b37 : Bool),
 v34 = Value.tuple (Array.mk [Value.string s36, Value.bool b37]) ∧
 br
 (n33 == (0 : Int) && b37 &&
 s36.toList ==
 [(Subtype.mk ((ByteArray.mk (Array.mk [(49 : UInt8)])).get! (0 : Nat))
 (List.forall_mem_cons.mp
 (List.attach._proof_1 [(ByteArray.mk (Array.mk [(49 : UInt8)])).get! (0 : Nat)])).left).val])
 (HC Tryz.prog (21 : Nat)
 (Array.mk [Value.pointer a32, Value.string (ByteArray.mk (Array.mk [])), Value.int IntKind.i64 (9 : Int)]) h35
 fun (v44 : Value) (h45 : Heap) =>
 ∃ (a46 : Option Addr),
 ∃ (k47 : Nat), ∃ (k48 : Nat), v44 = Value.slice a46 k47 k48 ∧ R (Value.bool ((↑k47 : Int) == (1 : Int))) h45)
 (R (Value.bool false) h35)))
 (R (Value.bool false) h16))
 (R (Value.bool false) h13))
 (R (Value.bool false) h4)) := by kernel_rfl

theorem vc08Same (A : Option Addr) (n c : Nat) (B : Option Addr) (m d : Nat) (h : Heap) (R : Value → Heap → Prop) :
    vcF Tryz.prog Tryz.f20 26 [] [] [.slice A n c, .slice B m d] h R =
(br ((↑n : Int) != (↑m : Int)) (R (Value.bool false) h)
 (∃ (I0 : Bool → Int → Heap → Prop),
 ∃ (I1 : Bool → Int → Heap → Nat),
 I0 false (0 : Int) h ∧
 ∀ (b2 : Bool) (n3 : Int) (h4 : Heap),
 I0 b2 n3 h4 →
 br (decide (n3 < (↑n : Int)))
 (∃ (p5 : Addr),
 (A = some p5 ∧ (0 : Int) ≤ n3 ∧ n3 < (↑n : Int)) ∧
 ∃ (s6 : ByteArray),
 ∃ (s7 : ByteArray),
 Reads Tryz.prog (Instr.loadAt (53 : Nat) (Value.pointer (some (p5.add (n3.toNat * (2 : Nat)))))) h4 (Value.agg (Array.mk [Value.string s6, Value.string s7])) ∧
 ∃ (p8 : Addr),
 (B = some p8 ∧ (0 : Int) ≤ n3 ∧ n3 < (↑m : Int)) ∧
 ∃ (s9 : ByteArray),
 ∃ (s10 : ByteArray),
 Reads Tryz.prog (Instr.loadAt (53 : Nat) (Value.pointer (some (p8.add (n3.toNat * (2 : Nat)))))) h4 (Value.agg (Array.mk [Value.string s9, Value.string s10])) ∧
 ∃ (b11 : Bool),
 Reads Tryz.prog
 (eqSem BinOp.neq (53 : Nat) (Operand.tmp (19 : Nat)) (Operand.tmp (23 : Nat)) (Value.agg (Array.mk [Value.string s6, Value.string s7]))
 (Value.agg (Array.mk [Value.string s9, Value.string s10])))
 h4 (Value.bool b11) ∧
 br b11 (R (Value.bool false) h4) (I0 b2 (IntKind.i64.wrap (n3 + (1 : Int))) h4 ∧ I1 b2 (IntKind.i64.wrap (n3 + (1 : Int))) h4 < I1 b2 n3 h4))
 (R (Value.bool true) h4))) := by kernel_rfl

theorem vc08Scan (A : Option Addr) (n c : Nat) (s : ByteArray) (k : Int) (h : Heap) (R : Value → Heap → Prop) :
    vcF Tryz.prog Tryz.f22 32 [] [] [.slice A n c, .string s, .int .i64 k] h R =
(∃ (I0 : Option Addr → Nat → Nat → Int → Heap → Prop),
 ∃ (I1 : Option Addr → Nat → Nat → Int → Heap → Nat),
 I0 none (0 : Nat) (0 : Nat) (0 : Int) h ∧
 ∀ (a2 : Option Addr) (k3 k4 : Nat) (n5 : Int) (h6 : Heap),
 I0 a2 k3 k4 n5 h6 →
 br (decide (n5 < (↑n : Int)))
 (∃ (p7 : Addr),
 (A = some p7 ∧ (0 : Int) ≤ n5 ∧ n5 < (↑n : Int)) ∧
 ∃ (s8 : ByteArray),
 ∃ (s9 : ByteArray),
 Reads Tryz.prog (Instr.loadAt (53 : Nat) (Value.pointer (some (p7.add (n5.toNat * (2 : Nat)))))) h6 (Value.agg (Array.mk [Value.string s8, Value.string s9])) ∧
 SVC Tryz.prog (Instr.storeAt (53 : Nat) (Value.pointer (some (Addr.mk (Array.size h6) (0 : Nat) none))) (Value.agg (Array.mk [Value.string s8, Value.string s9])))
 (Array.push h6 (Obj.cells (Array.mk [Value.string (ByteArray.mk (Array.mk [])), Value.string (ByteArray.mk (Array.mk []))]) (53 : Nat))) fun (x10 : Unit) (h11 : Heap) =>
 ∃ (s12 : ByteArray),
 Reads Tryz.prog (Instr.loadAt (9 : Nat) (Value.pointer (some (Addr.mk (Array.size h6) (0 : Nat) none)))) h11 (Value.string s12) ∧
 br (!Op.bytesLess s12.toList s.toList && decide ((↑k3 : Int) < k))
 (∃ (s13 : ByteArray),
 ∃ (s14 : ByteArray),
 Reads Tryz.prog (Instr.loadAt (53 : Nat) (Value.pointer (some (Addr.mk (Array.size h6) (0 : Nat) none)))) h11
 (Value.agg (Array.mk [Value.string s13, Value.string s14])) ∧
 SVC Tryz.prog (Instr.buildSlice (31 : Nat) (1 : Nat) (Array.mk [((0 : Nat), Value.agg (Array.mk [Value.string s13, Value.string s14]))])) h11
 fun (v15 : Value) (h16 : Heap) =>
 ∃ (a17 : Option Addr),
 ∃ (k18 : Nat),
 ∃ (k19 : Nat),
 v15 = Value.slice a17 k18 k19 ∧
 SVC Tryz.prog (Builtin.append_ (Array.mk [(31 : Nat), (31 : Nat)]) (31 : Nat) (Array.mk [Value.slice a2 k3 k4, Value.slice a17 k18 k19])) h16
 fun (v20 : Value) (h21 : Heap) =>
 ∃ (a22 : Option Addr),
 ∃ (k23 : Nat),
 ∃ (k24 : Nat),
 v20 = Value.slice a22 k23 k24 ∧
 I0 a22 k23 k24 (IntKind.i64.wrap (n5 + (1 : Int))) h21 ∧ I1 a22 k23 k24 (IntKind.i64.wrap (n5 + (1 : Int))) h21 < I1 a2 k3 k4 n5 h6)
 (I0 a2 k3 k4 (IntKind.i64.wrap (n5 + (1 : Int))) h11 ∧ I1 a2 k3 k4 (IntKind.i64.wrap (n5 + (1 : Int))) h11 < I1 a2 k3 k4 n5 h6))
 (R (Value.slice a2 k3 k4) h6)) := by kernel_rfl

theorem vc08Get (A : Option Addr) (n c : Nat) (s : ByteArray) (h : Heap) (R : Value → Heap → Prop) :
    vcF Tryz.prog Tryz.f19 20 [] [] [.slice A n c, .string s] h R =
(∃ (I0 : Int → Int → Heap → Prop),
 ∃ (I1 : Int → Int → Heap → Nat),
 I0 (0 : Int) (0 : Int) h ∧
 ∀ (n2 n3 : Int) (h4 : Heap),
 I0 n2 n3 h4 →
 br (decide (n3 < (↑n : Int)))
 (∃ (p5 : Addr),
 (A = some p5 ∧ (0 : Int) ≤ n3 ∧ n3 < (↑n : Int)) ∧
 ∃ (s6 : ByteArray),
 ∃ (s7 : ByteArray),
 Reads Tryz.prog (Instr.loadAt (53 : Nat) (Value.pointer (some (p5.add (n3.toNat * (2 : Nat)))))) h4 (Value.agg (Array.mk [Value.string s6, Value.string s7])) ∧
 SVC Tryz.prog (Instr.storeAt (53 : Nat) (Value.pointer (some (Addr.mk (Array.size h4) (0 : Nat) none))) (Value.agg (Array.mk [Value.string s6, Value.string s7])))
 (Array.push h4 (Obj.cells (Array.mk [Value.string (ByteArray.mk (Array.mk [])), Value.string (ByteArray.mk (Array.mk []))]) (53 : Nat))) fun (x8 : Unit) (h9 : Heap) =>
 ∃ (s10 : ByteArray),
 Reads Tryz.prog (Instr.loadAt (9 : Nat) (Value.pointer (some (Addr.mk (Array.size h4) (0 : Nat) none)))) h9 (Value.string s10) ∧
 br (s10.toList == s.toList) (R (Value.int IntKind.i64 n3) h9) (I0 n2 (IntKind.i64.wrap (n3 + (1 : Int))) h9 ∧ I1 n2 (IntKind.i64.wrap (n3 + (1 : Int))) h9 < I1 n2 n3 h4))
 (R (Value.int IntKind.i64 (-1 : Int)) h4)) := by kernel_rfl

theorem vc08Done (A : Option Addr) (n c : Nat) (k v : ByteArray) (g : Bool) (h : Heap) (R : Value → Heap → Prop) :
    vcF Tryz.prog Tryz.f45 55 [] [] [.slice A n c, .agg #[.string k, .string v, .bool g]] h R =
(∃ (b0 : Bool),
 Reads Tryz.prog (Instr.loadAt (4 : Nat) (Value.pointer (some ((Addr.mk (Array.size h) (0 : Nat) none).add (2 : Nat)))))
 (Array.push h (Obj.cells (Array.mk [Value.string k, Value.string v, Value.bool g]) (42 : Nat))) (Value.bool b0) ∧
 ∃ (I1 : Option Addr → Nat → Nat → Bool → Int → Heap → Prop),
 ∃ (I2 : Option Addr → Nat → Nat → Bool → Int → Heap → Nat),
 I1 none (0 : Nat) (0 : Nat) b0 (0 : Int) (Array.push h (Obj.cells (Array.mk [Value.string k, Value.string v, Value.bool g]) (42 : Nat))) ∧
 ∀ (a3 : Option Addr) (k4 k5 : Nat) (b6 : Bool) (n7 : Int) (h8 : Heap),
 I1 a3 k4 k5 b6 n7 h8 →
 br (decide (n7 < (↑n : Int)))
 (∃ (p9 : Addr),
 (A = some p9 ∧ (0 : Int) ≤ n7 ∧ n7 < (↑n : Int)) ∧
 ∃ (s10 : ByteArray),
 ∃ (s11 : ByteArray),
 Reads Tryz.prog (Instr.loadAt (53 : Nat) (Value.pointer (some (p9.add (n7.toNat * (2 : Nat)))))) h8 (Value.agg (Array.mk [Value.string s10, Value.string s11])) ∧
 SVC Tryz.prog (Instr.storeAt (53 : Nat) (Value.pointer (some (Addr.mk (Array.size h8) (0 : Nat) none))) (Value.agg (Array.mk [Value.string s10, Value.string s11])))
 (Array.push h8 (Obj.cells (Array.mk [Value.string (ByteArray.mk (Array.mk [])), Value.string (ByteArray.mk (Array.mk []))]) (53 : Nat))) fun (x12 : Unit) (h13 : Heap) =>
 ∃ (s14 : ByteArray),
 ((!b6) = true → Reads Tryz.prog (Instr.loadAt (9 : Nat) (Value.pointer (some (Addr.mk (Array.size h8) (0 : Nat) none)))) h13 (Value.string s14)) ∧
 ∃ (s15 : ByteArray),
 ((!b6) = true → Reads Tryz.prog (Instr.loadAt (9 : Nat) (Value.pointer (some (Addr.mk (Array.size h) (0 : Nat) none)))) h13 (Value.string s15)) ∧
 br (!b6 && !Op.bytesLess s14.toList s15.toList)
 (∃ (s16 : ByteArray),
 Reads Tryz.prog (Instr.loadAt (9 : Nat) (Value.pointer (some (Addr.mk (Array.size h) (0 : Nat) none)))) h13 (Value.string s16) ∧
 ∃ (s17 : ByteArray),
 Reads Tryz.prog (Instr.loadAt (9 : Nat) (Value.pointer (some ((Addr.mk (Array.size h) (0 : Nat) none).add (1 : Nat))))) h13 (Value.string s17) ∧
 SVC Tryz.prog (Instr.buildSlice (31 : Nat) (1 : Nat) (Array.mk [((0 : Nat), Value.agg (Array.mk [Value.string s16, Value.string s17]))])) h13
 fun (v18 : Value) (h19 : Heap) =>
 ∃ (a20 : Option Addr),
 ∃ (k21 : Nat),
 ∃ (k22 : Nat),
 v18 = Value.slice a20 k21 k22 ∧
 SVC Tryz.prog (Builtin.append_ (Array.mk [(31 : Nat), (31 : Nat)]) (31 : Nat) (Array.mk [Value.slice a3 k4 k5, Value.slice a20 k21 k22])) h19
 fun (v23 : Value) (h24 : Heap) =>
 ∃ (a25 : Option Addr),
 ∃ (k26 : Nat),
 ∃ (k27 : Nat),
 v23 = Value.slice a25 k26 k27 ∧
 ∃ (s28 : ByteArray),
 Reads Tryz.prog (Instr.loadAt (9 : Nat) (Value.pointer (some (Addr.mk (Array.size h8) (0 : Nat) none)))) h24 (Value.string s28) ∧
 ∃ (s29 : ByteArray),
 Reads Tryz.prog (Instr.loadAt (9 : Nat) (Value.pointer (some (Addr.mk (Array.size h) (0 : Nat) none)))) h24 (Value.string s29) ∧
 br (!s28.toList == s29.toList)
 (∃ (s30 : ByteArray),
 ∃ (s31 : ByteArray),
 Reads Tryz.prog (Instr.loadAt (53 : Nat) (Value.pointer (some (Addr.mk (Array.size h8) (0 : Nat) none)))) h24
 (Value.agg (Array.mk [Value.string s30, Value.string s31])) ∧
 SVC Tryz.prog
 (Instr.buildSlice (31 : Nat) (1 : Nat)
 (Array.mk [((0 : Nat), Value.agg (Array.mk [Value.string s30, Value.string s31]))]))
 h24 fun (v32 : Value) (h33 : Heap) =>
 ∃ (a34 : Option Addr),
 ∃ (k35 : Nat),
 ∃ (k36 : Nat),
 v32 = Value.slice a34 k35 k36 ∧
 SVC Tryz.prog
 (Builtin.append_ (Array.mk [(31 : Nat), (31 : Nat)]) (31 : Nat)
 (Array.mk [Value.slice a25 k26 k27, Value.slice a34 k35 k36]))
 h33 fun (v37 : Value) (h38 : Heap) =>
 ∃ (a39 : Option Addr),
 ∃ (k40 : Nat),
 ∃ (k41 : Nat),
 v37 = Value.slice a39 k40 k41 ∧
 I1 a39 k40 k41 true (IntKind.i64.wrap (n7 + (1 : Int))) h38 ∧
 I2 a39 k40 k41 true (IntKind.i64.wrap (n7 + (1 : Int))) h38 < I2 a3 k4 k5 b6 n7 h8)
 (I1 a25 k26 k27 true (IntKind.i64.wrap (n7 + (1 : Int))) h24 ∧
 I2 a25 k26 k27 true (IntKind.i64.wrap (n7 + (1 : Int))) h24 < I2 a3 k4 k5 b6 n7 h8))
 (∃ (s42 : ByteArray),
 Reads Tryz.prog (Instr.loadAt (9 : Nat) (Value.pointer (some (Addr.mk (Array.size h8) (0 : Nat) none)))) h13 (Value.string s42) ∧
 ∃ (s43 : ByteArray),
 Reads Tryz.prog (Instr.loadAt (9 : Nat) (Value.pointer (some (Addr.mk (Array.size h) (0 : Nat) none)))) h13 (Value.string s43) ∧
 br (!s42.toList == s43.toList)
 (∃ (s44 : ByteArray),
 ∃ (s45 : ByteArray),
 Reads Tryz.prog (Instr.loadAt (53 : Nat) (Value.pointer (some (Addr.mk (Array.size h8) (0 : Nat) none)))) h13
 (Value.agg (Array.mk [Value.string s44, Value.string s45])) ∧
 SVC Tryz.prog (Instr.buildSlice (31 : Nat) (1 : Nat) (Array.mk [((0 : Nat), Value.agg (Array.mk [Value.string s44, Value.string s45]))])) h13
 fun (v46 : Value) (h47 : Heap) =>
 ∃ (a48 : Option Addr),
 ∃ (k49 : Nat),
 ∃ (k50 : Nat),
 v46 = Value.slice a48 k49 k50 ∧
 SVC Tryz.prog
 (Builtin.append_ (Array.mk [(31 : Nat), (31 : Nat)]) (31 : Nat) (Array.mk [Value.slice a3 k4 k5, Value.slice a48 k49 k50])) h47
 fun (v51 : Value) (h52 : Heap) =>
 ∃ (a53 : Option Addr),
 ∃ (k54 : Nat),
 ∃ (k55 : Nat),
 v51 = Value.slice a53 k54 k55 ∧
 I1 a53 k54 k55 b6 (IntKind.i64.wrap (n7 + (1 : Int))) h52 ∧
 I2 a53 k54 k55 b6 (IntKind.i64.wrap (n7 + (1 : Int))) h52 < I2 a3 k4 k5 b6 n7 h8)
 (I1 a3 k4 k5 b6 (IntKind.i64.wrap (n7 + (1 : Int))) h13 ∧ I2 a3 k4 k5 b6 (IntKind.i64.wrap (n7 + (1 : Int))) h13 < I2 a3 k4 k5 b6 n7 h8)))
 (br (!b6)
 (∃ (s56 : ByteArray),
 Reads Tryz.prog (Instr.loadAt (9 : Nat) (Value.pointer (some (Addr.mk (Array.size h) (0 : Nat) none)))) h8 (Value.string s56) ∧
 ∃ (s57 : ByteArray),
 Reads Tryz.prog (Instr.loadAt (9 : Nat) (Value.pointer (some ((Addr.mk (Array.size h) (0 : Nat) none).add (1 : Nat))))) h8 (Value.string s57) ∧
 SVC Tryz.prog (Instr.buildSlice (31 : Nat) (1 : Nat) (Array.mk [((0 : Nat), Value.agg (Array.mk [Value.string s56, Value.string s57]))])) h8 fun (v58 : Value) (h59 : Heap) =>
 ∃ (a60 : Option Addr),
 ∃ (k61 : Nat),
 ∃ (k62 : Nat),
 v58 = Value.slice a60 k61 k62 ∧
 SVC Tryz.prog (Builtin.append_ (Array.mk [(31 : Nat), (31 : Nat)]) (31 : Nat) (Array.mk [Value.slice a3 k4 k5, Value.slice a60 k61 k62])) h59
 fun (v63 : Value) (h64 : Heap) => ∃ (a65 : Option Addr), ∃ (k66 : Nat), ∃ (k67 : Nat), v63 = Value.slice a65 k66 k67 ∧ R (Value.slice a65 k66 k67) h64)
 (R (Value.slice a3 k4 k5) h8))) := by kernel_rfl

theorem vc08All (A : Option Addr) (n c : Nat) (B : Option Addr) (m d : Nat) (h : Heap) (R : Value → Heap → Prop) :
    vcF Tryz.prog Tryz.f14 18 [] [] [.slice A n c, .slice B m d] h R =
(∃ (I0 : Option Addr → Nat → Nat → Int → Heap → Prop),
 ∃ (I1 : Option Addr → Nat → Nat → Int → Heap → Nat),
 I0 A n c (0 : Int) h ∧
 ∀ (a2 : Option Addr) (k3 k4 : Nat) (n5 : Int) (h6 : Heap),
 I0 a2 k3 k4 n5 h6 →
 br (decide (n5 < (↑m : Int)))
 (∃ (p7 : Addr),
 (B = some p7 ∧ (0 : Int) ≤ n5 ∧ n5 < (↑m : Int)) ∧
 ∃ (s8 : ByteArray),
 ∃ (s9 : ByteArray),
 ∃ (b10 : Bool),
 Reads Tryz.prog (Instr.loadAt (42 : Nat) (Value.pointer (some (p7.add (n5.toNat * (3 : Nat)))))) h6 (Value.agg (Array.mk [Value.string s8, Value.string s9, Value.bool b10])) ∧
 SVC Tryz.prog
 (Instr.storeAt (42 : Nat) (Value.pointer (some (Addr.mk (Array.size h6) (0 : Nat) none))) (Value.agg (Array.mk [Value.string s8, Value.string s9, Value.bool b10])))
 (Array.push h6 (Obj.cells (Array.mk [Value.string (ByteArray.mk (Array.mk [])), Value.string (ByteArray.mk (Array.mk [])), Value.bool false]) (42 : Nat)))
 fun (x11 : Unit) (h12 : Heap) =>
 ∃ (s13 : ByteArray),
 ∃ (s14 : ByteArray),
 ∃ (b15 : Bool),
 Reads Tryz.prog (Instr.loadAt (42 : Nat) (Value.pointer (some (Addr.mk (Array.size h6) (0 : Nat) none)))) h12
 (Value.agg (Array.mk [Value.string s13, Value.string s14, Value.bool b15])) ∧
 HC Tryz.prog (45 : Nat) (Array.mk [Value.slice a2 k3 k4, Value.agg (Array.mk [Value.string s13, Value.string s14, Value.bool b15])]) h12
 fun (v16 : Value) (h17 : Heap) =>
 ∃ (a18 : Option Addr),
 ∃ (k19 : Nat),
 ∃ (k20 : Nat),
 v16 = Value.slice a18 k19 k20 ∧
 I0 a18 k19 k20 (IntKind.i64.wrap (n5 + (1 : Int))) h17 ∧ I1 a18 k19 k20 (IntKind.i64.wrap (n5 + (1 : Int))) h17 < I1 a2 k3 k4 n5 h6)
 (R (Value.slice a2 k3 k4) h6)) := by kernel_rfl

theorem vc08Long (A : Option Addr) (n c : Nat) (h : Heap) (R : Value → Heap → Prop) :
    vcF Tryz.prog Tryz.f12 25 [] [] [.slice A n c] h R =
(∃ (I0 : Bool → Int → Heap → Prop),
 ∃ (I1 : Bool → Int → Heap → Nat),
 I0 false (0 : Int) h ∧
 ∀ (b2 : Bool) (n3 : Int) (h4 : Heap),
 I0 b2 n3 h4 →
 br (decide (n3 < (↑n : Int)))
 (∃ (p5 : Addr),
 (A = some p5 ∧ (0 : Int) ≤ n3 ∧ n3 < (↑n : Int)) ∧
 ∃ (s6 : ByteArray),
 ∃ (s7 : ByteArray),
 ∃ (b8 : Bool),
 Reads Tryz.prog (Instr.loadAt (42 : Nat) (Value.pointer (some (p5.add (n3.toNat * (3 : Nat)))))) h4 (Value.agg (Array.mk [Value.string s6, Value.string s7, Value.bool b8])) ∧
 SVC Tryz.prog
 (Instr.storeAt (42 : Nat) (Value.pointer (some (Addr.mk (Array.size h4) (0 : Nat) none))) (Value.agg (Array.mk [Value.string s6, Value.string s7, Value.bool b8])))
 (Array.push h4 (Obj.cells (Array.mk [Value.string (ByteArray.mk (Array.mk [])), Value.string (ByteArray.mk (Array.mk [])), Value.bool false]) (42 : Nat)))
 fun (x9 : Unit) (h10 : Heap) =>
 ∃ (s11 : ByteArray),
 Reads Tryz.prog (Instr.loadAt (9 : Nat) (Value.pointer (some (Addr.mk (Array.size h4) (0 : Nat) none)))) h10 (Value.string s11) ∧
 ∃ (s12 : ByteArray),
 ((!decide ((↑s11.size : Int) > (48 : Int))) = true →
 Reads Tryz.prog (Instr.loadAt (9 : Nat) (Value.pointer (some ((Addr.mk (Array.size h4) (0 : Nat) none).add (1 : Nat))))) h10 (Value.string s12)) ∧
 br (decide ((↑s11.size : Int) > (48 : Int)) || decide ((↑s12.size : Int) > (160 : Int))) (R (Value.bool true) h10)
 (I0 b2 (IntKind.i64.wrap (n3 + (1 : Int))) h10 ∧ I1 b2 (IntKind.i64.wrap (n3 + (1 : Int))) h10 < I1 b2 n3 h4))
 (R (Value.bool (decide ((↑n : Int) > (1024 : Int)))) h4)) := by kernel_rfl
end Go.Proofs.YtkhinnchplahlaaGreatDoor
end

section
set_option linter.unusedVariables false
set_option linter.unusedSimpArgs false
set_option maxRecDepth 100000
namespace Go.Proofs.YtkhinnchplahlaaGreatDoor
open Go Go.Vc Go.Proofs Go.Dk Go.Kv

theorem agPr : agT Tryz.prog 53 2 = true := by kernel_rfl
theorem szPr : szOf Tryz.prog 53 = some 2 := by kernel_rfl
abbrev prBox (p : Str × Str) : Obj := .cells #[.string p.1, .string p.2] 53 (0, 0)
theorem pr_at {h : Heap} {A : Option Addr} {n k : Nat} {l : List (Str × Str)} {w : Str × Str} (hs : Sl StrPairE h A n l) (hq : l[k]? = some w) :
    ∃ p, A = some p ∧ Reads Tryz.prog (Instr.loadAt 53 (.pointer (some (p.add (k * 2))))) h (.agg (Array.mk [.string w.1, .string w.2])) := by
  obtain ⟨p, e, hp⟩ := hs.get hq
  exact ⟨p, e, reads_load_agg (cs := [.string w.1, .string w.2]) agPr rfl fun j v hv => by rw [Addr.add_add]; exact hp j v hv⟩
theorem svc_pr {w : Str × Str} {h : Heap} {old : Array Value} {K : Unit → Heap → Prop} (ho : old.size = 2) (k : K () (h.push (prBox w))) :
    SVC Tryz.prog (Instr.storeAt 53 (.pointer (some ⟨h.size, 0, none⟩)) (.agg (Array.mk [.string w.1, .string w.2]))) (h.push (.cells old 53 (0, 0))) K :=
  svc_store_new (v := .agg #[.string w.1, .string w.2]) szPr ho (fun v hv => StrPairE.one w v hv) k
section
variable {w : Str × Str} {h : Heap} {b : Nat}
theorem pr_k (hb : h[b]? = some (prBox w)) : Reads Tryz.prog (Instr.loadAt 9 (.pointer (some ⟨b, 0, none⟩))) h (.string w.1) := reads_load kS (cell_cells0 hb rfl)
theorem pr_v (hb : h[b]? = some (prBox w)) : Reads Tryz.prog (Instr.loadAt 9 (.pointer (some ((⟨b, 0, none⟩ : Addr).add 1)))) h (.string w.2) := reads_load kS (cell_cells hb rfl)
theorem pr_all (hb : h[b]? = some (prBox w)) : Reads Tryz.prog (Instr.loadAt 53 (.pointer (some ⟨b, 0, none⟩))) h (.agg (Array.mk [.string w.1, .string w.2])) :=
  reads_load_agg (cs := [.string w.1, .string w.2]) agPr rfl (cells_all hb)
end

section
variable {h : Heap} {A : Option Addr} {n cc : Nat} {P : Ps Str}
theorem get08_spec (hs : Sl StrPairE h A n P) (hn : n ≤ 1000000) (k : Str) : HC Tryz.prog 19 #[.slice A n cc, .string k] h fun v h' => Keep h.size h h' ∧ ∃ i : Int, v = .int .i64 i ∧
    ((i = -1 ∧ mGet P k = none) ∨ ∃ (j : Nat) (x : Str), i = j ∧ P[j]? = some (k, x) ∧ mGet P k = some x) := by
  have hl := hs.1
  refine HC_of_vc (args := [.slice A n cc, .string k]) (base := 20) (cuts := []) (bigs := []) kM Tryz.func19 ?_
  rw [vc08Get]
  refine ⟨fun _ n3 G => ∃ j : Nat, n3 = j ∧ j ≤ n ∧ Keep h.size h G ∧ mGet P k = mGet (P.drop j) k, fun _ n3 _ => n - n3.toNat, ⟨0, rfl, Nat.zero_le _, Keep.refl _ _, rfl⟩, ?_⟩
  rintro n2 n3 G ⟨j, rfl, hj, kG, hg⟩
  refine br_intro (fun hlt => ?_) fun hge => ?_
  · have hlt : j < P.length := by rw [hl]; simpa using hlt
    have hq : P[j]? = some (P[j]'hlt) := List.getElem?_eq_getElem hlt
    have hd : P.drop j = P[j]'hlt :: P.drop (j + 1) := List.drop_eq_getElem_cons hlt
    generalize P[j]'hlt = p at hq hd
    obtain ⟨p5, eA, rd⟩ := pr_at (hs.keep kG) hq
    refine ⟨p5, ⟨eA, by omega, by omega⟩, _, _, rd, svc_pr rfl ?_⟩
    have kb := keep_push G (prBox p)
    have bb := push_at G (prBox p)
    generalize G.push (prBox p) = G2 at kb bb
    have kG2 := kG.trans (kb.mono kG.size)
    rw [hd, mGet] at hg
    refine ⟨_, pr_k bb, br_intro (fun e => ⟨kG2, _, rfl, .inr ⟨j, p.2, rfl, ?_, ?_⟩⟩) fun e => ?_⟩
    · rw [← eq_beq.1 e]; exact hq
    · rw [hg, if_pos (eq_beq.1 e)]
    · rw [beq_dec'] at e
      rw [if_neg (of_decide_eq_false e)] at hg
      rw [wrap_i64 (by omega) (by omega)]
      exact ⟨⟨j + 1, rfl, by omega, kG2, hg⟩, by dsimp only; omega⟩
  · have hge : j = P.length := by have := of_decide_eq_false hge; omega
    subst hge
    rw [List.drop_length] at hg
    exact ⟨kG, _, rfl, .inl ⟨rfl, hg⟩⟩
set_option maxHeartbeats 1000000 in
theorem done08_spec (hs : Sl StrPairE h A n P) (hP : SrtP P) (hn : n ≤ 1000000) (w : Wr) : HC Tryz.prog 45 #[.slice A n cc, .agg #[.string w.key, .string w.val, .bool w.gone]] h fun v h' => Keep h.size h h' ∧
    ∃ a k c, v = .slice a k c ∧ Vc.Own StrPairE 53 h.size h' a k c (done1 P w) := by
  have hl := hs.1
  refine HC_of_vc (args := [.slice A n cc, .agg #[.string w.key, .string w.val, .bool w.gone]]) (base := 55) (cuts := []) (bigs := []) kM Tryz.func45 ?_
  rw [vc08Done, ← rr_done hP w]
  have kw := keep_push h (wrBox w)
  have bw := push_at h (wrBox w)
  have zw : (h.push (wrBox w)).size = h.size + 1 := by simp
  refine ⟨_, wr_g bw, fun a3 k4 k5 b6 n7 G => ∃ (j : Nat) (o : Ps Str), n7 = j ∧ j ≤ n ∧ o.length ≤ 2 * j ∧ Keep h.size h G ∧ G[h.size]? = some (wrBox w) ∧ Vc.Own StrPairE 53 (h.size + 1) G a3 k4 k5 o ∧ rr w.key w.val w.gone P = o ++ rr w.key w.val b6 (P.drop j),
    fun _ _ _ _ n7 _ => n - n7.toNat, ⟨0, [], rfl, Nat.zero_le _, Nat.zero_le _, kw, bw, Vc.Own.nil _ _ _, rfl⟩, ?_⟩
  clear kw bw zw
  rintro a3 k4 k5 b6 n7 G ⟨j, o, rfl, hj, ho, kG, bG, oG, hr⟩
  have hk := oG.1
  have zG := at_lt bG
  refine br_intro (fun hlt => ?_) fun hge => ?_
  · have hlt : j < P.length := by rw [hl]; simpa using hlt
    have hq : P[j]? = some (P[j]'hlt) := List.getElem?_eq_getElem hlt
    have hd : P.drop j = P[j]'hlt :: P.drop (j + 1) := List.drop_eq_getElem_cons hlt
    generalize P[j]'hlt = p at hq hd
    obtain ⟨p5, eA, rd⟩ := pr_at (hs.keep kG) hq
    refine ⟨p5, ⟨eA, by omega, by omega⟩, _, _, rd, svc_pr rfl ?_⟩
    have kb := keep_push G (prBox p)
    have bb := push_at G (prBox p)
    have zb : (G.push (prBox p)).size = G.size + 1 := by simp
    have o2 : Vc.Own StrPairE 53 (h.size + 1) (G.push (prBox p)) a3 k4 k5 o := oG.upd (kb.upd fun _ => False) fun _ _ h => h
    have b2 := kb.at bG zG
    generalize G.push (prBox p) = G2 at kb bb zb o2 b2
    have kG2 := kG.trans (kb.mono kG.size)
    have hbk : ∀ q, blk a3 q → h.size + 1 ≤ q ∧ q < G.size := oG.block
    rw [hd, rr] at hr
    rw [wrap_i64 (by omega) (by omega)]
    -- what comes of a pair that is put behind
    have two : ∀ {b : Bool} {G3 : Heap} {a : Option Addr} {k c : Nat} {o' : Ps Str}, Upd (fun q => h.size + 1 ≤ q ∧ q ≠ G.size) G2 G3 → Vc.Own StrPairE 53 (h.size + 1) G3 a k c o' → o'.length ≤ 2 * (j + 1) → rr w.key w.val w.gone P = o' ++ rr w.key w.val b (P.drop (j + 1)) →
        (∃ (j' : Nat) (o : Ps Str), ((j : Int) + 1) = (j' : Int) ∧ j' ≤ n ∧ o.length ≤ 2 * j' ∧ Keep h.size h G3 ∧ G3[h.size]? = some (wrBox w) ∧ Vc.Own StrPairE 53 (h.size + 1) G3 a k c o ∧ rr w.key w.val w.gone P = o ++ rr w.key w.val b (P.drop j')) ∧ n - ((j : Int) + 1).toNat < n - (j : Int).toNat := by
      intro b G3 a k c o' u3 o3 hl3 hr3
      exact ⟨⟨j + 1, o', by omega, by omega, hl3, kG2.trans (u3.keep kG2.size fun q hq => by omega), u3.at b2 (by omega), o3, hr3⟩, by omega⟩
    refine ⟨p.1, fun _ => pr_k bb, w.key, fun _ => wr_k b2, br_intro (fun e => ?_) fun e => ?_⟩
    · rw [Bool.and_eq_true] at e
      have hb6 : b6 = false := by simpa using e.1
      have hlt6 : lt p.1 w.key = false := by simpa using e.2
      subst hb6
      rw [hlt6] at hr
      simp only [Bool.not_false, Bool.and_self, if_true, Bool.or_true] at hr
      refine ⟨_, wr_k b2, _, wr_v b2, svc_append1 (x := (w.key, w.val)) app_pr o2 (by omega) (bs_pr (w.key, w.val)) (by omega) fun a' c' h24 o24 u24 b24 => ?_⟩
      have bb24 : h24[G.size]? = some (prBox p) := u24.at bb fun hq => by have := hbk _ hq; omega
      have bw24 : h24[h.size]? = some (wrBox w) := u24.at b2 fun hq => by have := hbk _ hq; omega
      have hb' : ∀ q, blk a' q → h.size + 1 ≤ q ∧ q ≠ G.size := fun q hq => by
        rcases b24 q hq with h1 | h1
        · have := hbk _ h1; omega
        · have := (o24.block q hq).1; omega
      have U24 : Upd (fun q => h.size + 1 ≤ q ∧ q ≠ G.size) G2 h24 := u24.mono fun q hq => by have := hbk _ hq; omega
      refine ⟨_, pr_k bb24, _, wr_k bw24, br_intro (fun e2 => ?_) fun e2 => ?_⟩
      · rw [beq_dec'] at e2
        have hne : p.1 ≠ w.key := by simpa using e2
        rw [if_neg hne] at hr
        refine ⟨_, _, pr_all bb24, svc_append1 (x := p) app_pr o24 (by have := u24.size; omega) (bs_pr p) (by omega) fun a'' c'' h38 o38 u38 b38 => ?_⟩
        refine two (U24.trans (u38.mono hb')) o38 (by simp; omega) ?_
        rw [hr]; simp
      · rw [beq_dec'] at e2
        have heq : p.1 = w.key := by simpa using e2
        rw [if_pos heq] at hr
        refine two U24 o24 (by simp; omega) ?_
        rw [hr]; simp
    · have hb : (b6 || !lt p.1 w.key) = b6 := by
        cases b6 with
        | true => rfl
        | false => simpa using e
      have hnil : (if (!b6 && !lt p.1 w.key) = true then [(w.key, w.val)] else []) = ([] : Ps Str) := if_neg (by rw [e]; decide)
      rw [hb, hnil, List.nil_append] at hr
      refine ⟨_, pr_k bb, _, wr_k b2, br_intro (fun e2 => ?_) fun e2 => ?_⟩
      · rw [beq_dec'] at e2
        have hne : p.1 ≠ w.key := by simpa using e2
        rw [if_neg hne] at hr
        refine ⟨_, _, pr_all bb, svc_append1 (x := p) app_pr o2 (by omega) (bs_pr p) (by omega) fun a'' c'' h38 o38 u38 b38 => ?_⟩
        refine two (u38.mono fun q hq => by have := hbk _ hq; omega) o38 (by simp; omega) ?_
        rw [hr]; simp
      · rw [beq_dec'] at e2
        have heq : p.1 = w.key := by simpa using e2
        rw [if_pos heq, List.nil_append] at hr
        exact two (Upd.refl _ _) o2 (by omega) hr
  · have hge : j = P.length := by have := of_decide_eq_false hge; omega
    subst hge
    rw [List.drop_length] at hr
    have hbk : ∀ q, blk a3 q → h.size + 1 ≤ q ∧ q < G.size := oG.block
    refine br_intro (fun e => ?_) fun e => ?_
    · have hb6 : b6 = false := by simpa using e
      subst hb6
      refine ⟨_, wr_k bG, _, wr_v bG, svc_append1 (x := (w.key, w.val)) app_pr oG (by omega) (bs_pr (w.key, w.val)) (by omega) fun a' c' h64 o64 u64 b64 => ⟨kG.trans (u64.keep kG.size fun q hq => by have := hbk _ hq; omega), _, _, _, rfl, ?_⟩⟩
      rw [hr]
      exact o64.mono (by omega)
    · have hb6 : b6 = true := by simpa using e
      subst hb6
      refine ⟨kG, _, _, _, rfl, ?_⟩
      rw [hr, rr, if_pos rfl, List.append_nil]
      exact oG.mono (by omega)
theorem all08_spec {B : Option Addr} {m d : Nat} {l : List Wr} (hs : Sl StrPairE h A n P) (hP : SrtP P) (hl : Sl WrE h B m l) (hb : P.length + l.length ≤ 1000000) :
    HC Tryz.prog 14 #[.slice A n cc, .slice B m d] h fun v h' => Keep h.size h h' ∧ ∃ a k c, v = .slice a k c ∧ Sl StrPairE h' a k (doneAll P l) ∧ ∀ q, blk a q → blk A q ∨ (h.size ≤ q ∧ q < h'.size) := by
  have hn := hs.1
  have hm := hl.1
  refine HC_of_vc (args := [.slice A n cc, .slice B m d]) (base := 18) (cuts := []) (bigs := []) kM Tryz.func14 ?_
  rw [vc08All]
  refine ⟨fun a2 k3 k4 n5 G => ∃ j : Nat, n5 = j ∧ j ≤ m ∧ Keep h.size h G ∧ Sl StrPairE G a2 k3 (doneAll P (l.take j)) ∧ ∀ q, blk a2 q → blk A q ∨ (h.size ≤ q ∧ q < G.size), fun _ _ _ n5 _ => m - n5.toNat, ⟨0, rfl, Nat.zero_le _, Keep.refl _ _, hs, fun q hq => .inl hq⟩, ?_⟩
  rintro a2 k3 k4 n5 G ⟨j, rfl, hj, kG, sG, hbG⟩
  refine br_intro (fun hlt => ?_) fun hge => ?_
  · have hlt : j < l.length := by rw [hm]; simpa using hlt
    have hq : l[j]? = some (l[j]'hlt) := List.getElem?_eq_getElem hlt
    have htk : l.take (j + 1) = l.take j ++ [l[j]'hlt] := List.take_succ_eq_append_getElem hlt
    generalize l[j]'hlt = w at hq htk
    obtain ⟨p7, eA, rd⟩ := wr_at (hl.keep kG) hq
    refine ⟨p7, ⟨eA, by omega, by omega⟩, _, _, _, rd, svc_wr rfl ?_⟩
    have kb := keep_push G (wrBox w)
    have bb := push_at G (wrBox w)
    have s2 := sG.keep kb
    generalize G.push (wrBox w) = G2 at kb bb s2
    have kG2 := kG.trans (kb.mono kG.size)
    have hlen : (doneAll P (l.take j)).length ≤ 1000000 := by
      have := doneAll_len' (l.take j) P
      rw [List.length_take] at this
      omega
    refine ⟨_, _, _, reads_load_agg (cs := [.string w.key, .string w.val, .bool w.gone]) agWr rfl (cells_all bb), (done08_spec s2 (srt_doneAll _ hP) (by rw [← s2.1]; exact hlen) w).mono ?_⟩
    rintro v h17 ⟨k17, a, k, c, rfl, o17⟩
    rw [wrap_i64 (by omega) (by omega)]
    refine ⟨_, _, _, rfl, ⟨j + 1, rfl, by omega, kG2.trans (k17.mono kG2.size), ?_, fun q hq => .inr ?_⟩, by dsimp only; omega⟩
    · rw [htk, doneAll_snoc]
      exact o17.sl
    · have := o17.block q hq
      have := kG2.size
      omega
  · have hge : j = l.length := by have := of_decide_eq_false hge; omega
    subst hge
    rw [List.take_length] at sG
    exact ⟨kG, _, _, _, rfl, sG, hbG⟩
where
  sput_len' (n : Str) (l : Str) : ∀ F : Ps Str, (sput n l F).length ≤ F.length + 1
    | [] => Nat.le_refl _
    | p :: F => by
      unfold sput
      split
      · simp
      · split
        · simp
        · have := sput_len' n l F; simp; omega
  done1_len' (P : Ps Str) (w : Wr) : (done1 P w).length ≤ P.length + 1 := by
    unfold done1
    split
    · exact Nat.le_trans (List.length_filter_le _ _) (Nat.le_succ _)
    · exact sput_len' _ _ _
  doneAll_len' : ∀ (l : List Wr) (P : Ps Str), (doneAll P l).length ≤ P.length + l.length
    | [], P => Nat.le_refl _
    | w :: l, P => by
      have h1 := doneAll_len' l (done1 P w)
      have h2 := done1_len' P w
      show (doneAll (done1 P w) l).length ≤ _
      rw [List.length_cons]; omega
theorem long08_spec {l : List Wr} (hs : Sl WrE h A n l) (hn : n ≤ 9223372036854775807) : HC Tryz.prog 12 #[.slice A n cc] h fun v h' => Keep h.size h h' ∧ v = .bool (long l) := by
  have hl := hs.1
  refine HC_of_vc (args := [.slice A n cc]) (base := 25) (cuts := []) (bigs := []) kM Tryz.func12 ?_
  rw [vc08Long]
  refine ⟨fun _ n3 G => ∃ j : Nat, n3 = j ∧ j ≤ n ∧ Keep h.size h G ∧ (l.take j).any (fun w => decide (48 < w.key.size) || decide (160 < w.val.size)) = false, fun _ n3 _ => n - n3.toNat, ⟨0, rfl, Nat.zero_le _, Keep.refl _ _, by simp⟩, ?_⟩
  rintro b2 n3 G ⟨j, rfl, hj, kG, ha⟩
  refine br_intro (fun hlt => ?_) fun hge => ?_
  · have hlt : j < l.length := by rw [hl]; simpa using hlt
    have hq : l[j]? = some (l[j]'hlt) := List.getElem?_eq_getElem hlt
    have hm := List.getElem_mem hlt
    have htk : l.take (j + 1) = l.take j ++ [l[j]'hlt] := List.take_succ_eq_append_getElem hlt
    generalize l[j]'hlt = w at hq htk hm
    obtain ⟨p7, eA, rd⟩ := wr_at (hs.keep kG) hq
    refine ⟨p7, ⟨eA, by omega, by omega⟩, _, _, _, rd, svc_wr rfl ?_⟩
    have kb := keep_push G (wrBox w)
    have bb := push_at G (wrBox w)
    generalize G.push (wrBox w) = G2 at kb bb
    have kG2 := kG.trans (kb.mono kG.size)
    have e1 : decide ((w.key.size : Int) > 48) = decide (48 < w.key.size) := decide_eq_decide.2 (by omega)
    have e2 : decide ((w.val.size : Int) > 160) = decide (160 < w.val.size) := decide_eq_decide.2 (by omega)
    refine ⟨w.key, wr_k bb, w.val, fun _ => wr_v bb, ?_⟩
    rw [e1, e2]
    refine br_intro (fun e => ⟨kG2, ?_⟩) fun e => ?_
    · unfold long
      have : (l.any fun w => decide (48 < w.key.size) || decide (160 < w.val.size)) = true := List.any_eq_true.2 ⟨w, hm, e⟩
      rw [this]; rfl
    · rw [wrap_i64 (by omega) (by omega)]
      refine ⟨⟨j + 1, rfl, by omega, kG2, ?_⟩, by dsimp only; omega⟩
      rw [htk, List.any_append, ha, List.any_cons, e]; rfl
  · have hge : j = l.length := by have := of_decide_eq_false hge; omega
    subst hge
    rw [List.take_length] at ha
    refine ⟨kG, ?_⟩
    unfold long
    rw [ha, Bool.false_or]
    congr 1
    exact decide_eq_decide.2 (by omega)
end
end Go.Proofs.YtkhinnchplahlaaGreatDoor
end

section
set_option linter.unusedVariables false
set_option linter.unusedSimpArgs false
set_option maxRecDepth 100000
namespace Go.Proofs.YtkhinnchplahlaaGreatDoor
open Go Go.Vc Go.Proofs Go.Dk Go.Kv Go.Ls Go.Cd
open Go.Pg (Quiet Nx layW partB nparts partsW partsW_len)

section
variable {g : Nat → Nat} {h h' : Heap} {t d n c : Nat} {nm : Str} {A : Option Addr} {N : Nat → Prop} {x : D}
def syncX (nm : Str) (x : D) : D := if Dk.has x nm then (Dk.sync x nm).2 else x
theorem tsync_spec {w : Tw} (p : TrAt g h t d nm w) (dn : DN N d x h) (gN : ∀ q, g q ≠ 0 → N q) (hq : Quiet x) (hw : x.waits.length ≤ 100000000) :
    HC Tryz.prog 17 #[.pointer (some ⟨t, 0, none⟩)] h fun v h' => v = .int .i64 0 ∧ DN N d (syncX nm x) h' ∧ TrAt g h' t d nm w ∧ UpdM (fun q => ¬ N q) h h' ∧ Quiet (syncX nm x) ∧ (syncX nm x).now = x.now ∧ (syncX nm x).room = x.room ∧ (syncX nm x).waits.length ≤ x.waits.length := by
  obtain ⟨l, A, bn, c, v, pp⟩ := p
  refine HC_of_vc (args := [.pointer (some ⟨t, 0, none⟩)]) (base := 10) (cuts := []) (bigs := []) kM Tryz.func17 ?_
  rw [vcLmSync]
  refine ⟨_, reads_eql_nil uTr, br_intro (fun e => by cases e) fun _ => ⟨_, rfl, _, pp.core.rl, (lsync_spec pp.log dn hq.down hw).mono ?_⟩⟩
  rintro vv h4 ⟨st, rfl⟩
  have hn : (if Dk.has x nm then (Dk.sync x nm).1 else 0) = 0 ∧ Quiet (syncX nm x) ∧ (syncX nm x).now = x.now ∧ (syncX nm x).room = x.room ∧ (syncX nm x).waits.length ≤ x.waits.length := by
    unfold syncX
    cases hh : Dk.has x nm with
    | false => exact ⟨rfl, hq, rfl, rfl, Nat.le_refl _⟩
    | true =>
      have hsm : (mGet x.now nm).isSome = true := by
        unfold Dk.has at hh
        rw [Bool.and_eq_true] at hh
        exact hh.2
      obtain ⟨a, b⟩ := Pg.sync_nx hq hsm
      have := Pg.sync_waits x nm
      exact ⟨a, b.q, b.now, b.room, this⟩
  obtain ⟨h1, h2, h3, h4', h5⟩ := hn
  rw [h1]
  exact ⟨_, rfl, rfl, st.dn, ⟨l, A, bn, c, v, pp.same st.up fun q hq hn => hn (gN q hq)⟩, st.up, h2, h3, h4', h5⟩
theorem prPair : Tryz.prog.underlying 53 = some (.struct #[(Tryz.prog.fieldsOf 53)[0]!, (Tryz.prog.fieldsOf 53)[1]!]) := by kernel_rfl
theorem pr_flat : Flat Tryz.prog 53 #[(Tryz.prog.fieldsOf 53)[0]!, (Tryz.prog.fieldsOf 53)[1]!] := ⟨prPair, by kernel_rfl, by kernel_rfl⟩
/-- two pairs compared: the same. -/
theorem reads_pr_same {h : Heap} {x y : Operand} {p : Str × Str} : Reads Tryz.prog (eqSem .neq 53 x y (.agg (Array.mk [.string p.1, .string p.2])) (.agg (Array.mk [.string p.1, .string p.2]))) h (.bool false) := by
  refine (reads_eq pr_flat (r := true) ?_).2
  have e : eqFl Tryz.prog [.string p.1, .string p.2] [.string p.1, .string p.2] [(Tryz.prog.fieldsOf 53)[0]!, (Tryz.prog.fieldsOf 53)[1]!] = some ((p.1.toList == p.1.toList) && ((p.2.toList == p.2.toList) && true)) := by kernel_rfl
  refine Eq.trans e ?_
  simp
theorem same08_spec {B : Option Addr} {m d : Nat} {P : Ps Str} (hs : Sl StrPairE h A n P) (hs2 : Sl StrPairE h B m P) (hn : n ≤ 1000000) :
    HC Tryz.prog 20 #[.slice A n c, .slice B m d] h fun v h' => h' = h ∧ v = .bool true := by
  have hl := hs.1
  have hl2 := hs2.1
  have hnm : n = m := by omega
  subst hnm
  refine HC_of_vc (args := [.slice A n c, .slice B n d]) (base := 26) (cuts := []) (bigs := []) kM Tryz.func20 ?_
  rw [vc08Same]
  refine br_intro (fun e => by simp at e) fun _ => ⟨fun _ n3 H => ∃ j : Nat, n3 = j ∧ j ≤ n ∧ H = h, fun _ n3 _ => n - n3.toNat, ⟨0, rfl, Nat.zero_le _, rfl⟩, ?_⟩
  rintro b2 n3 H ⟨j, rfl, hj, rfl⟩
  refine br_intro (fun e => ?_) fun _ => ⟨rfl, rfl⟩
  have e := of_decide_eq_true e
  have hq : P[j]? = some (P[j]'(by omega)) := List.getElem?_eq_getElem (by omega)
  generalize P[j]'(by omega) = p at hq
  obtain ⟨p1, e1, r1⟩ := pr_at hs hq
  obtain ⟨p2, e2, r2⟩ := pr_at hs2 hq
  refine ⟨p1, ⟨e1, by omega, e⟩, _, _, by rw [Int.toNat_natCast]; exact r1, p2, ⟨e2, by omega, e⟩, _, _, by rw [Int.toNat_natCast]; exact r2, _, reads_pr_same, br_intro (fun e => by cases e) fun _ => ?_⟩
  rw [wrap_i64 (by omega) (by omega)]
  exact ⟨⟨j + 1, rfl, by omega, rfl⟩, by dsimp only; omega⟩
theorem srt_pairs (T : TS) : SrtP T.pairs := srt_doneAll _ srt_nil
theorem pairs_len (T : TS) : T.pairs.length ≤ T.tabs.flatten.length + T.mem.length := by
  have h1 := all08_spec.doneAll_len' (P := []) (l := []) (T.tabs.flatten ++ T.mem) []
  rw [List.length_append, List.length_nil] at h1
  show (doneAll [] (T.tabs.flatten ++ T.mem)).length ≤ _
  omega
theorem lt_empty (s : Str) : lt s ⟨#[]⟩ = false := by
  show Op.bytesLess s.toList (⟨#[]⟩ : Str).toList = false
  rw [ByteArray.toList_eq (⟨#[]⟩ : ByteArray)]
  cases s.toList <;> rfl
theorem scan_all {P : Ps Str} (h : P.length ≤ 1000000) : Kv.scan P ⟨#[]⟩ 9223372036854775807 = P := by
  unfold Kv.scan
  rw [List.filter_eq_self.2 fun p _ => by rw [lt_empty]; rfl]
  exact List.take_of_length_le (by omega)
/-- it has. -/
theorem lhas_spec {T : TS} (p : TrAt g h t d nm (tw T)) (hT : ∀ U ∈ T.tabs, Tab U) (hsum : T.tabs.flatten.length + T.mem.length ≤ 900000) (hnt : T.tabs.length ≤ 900000) (hs : Sl StrPairE h A n T.pairs) :
    HC Tryz.prog 15 #[.pointer (some ⟨t, 0, none⟩), .slice A n c] h fun v h' => Keep h.size h h' ∧ v = .bool true := by
  have hl := hs.1
  have hpl := pairs_len T
  refine HC_of_vc (args := [.pointer (some ⟨t, 0, none⟩), .slice A n c]) (base := 36) (cuts := []) (bigs := []) kM Tryz.func15 ?_
  rw [vc11Has]
  refine (lscan_spec p hsum hnt ⟨#[]⟩ 9223372036854775807).mono ?_
  rintro vv h1 ⟨k1, a, c1, rfl, s1, b1⟩
  have hsc : Kv.scan (doneAll [] ((tw T).tabs.flatten ++ (tw T).mem)) ⟨#[]⟩ 9223372036854775807 = T.pairs := scan_all (by show T.pairs.length ≤ _; omega)
  rw [hsc] at s1 ⊢
  refine ⟨_, _, _, rfl, (same08_spec s1 (hs.keep k1) (by omega)).mono ?_⟩
  rintro vv h6 ⟨rfl, rfl⟩
  refine ⟨_, rfl, br_intro (fun e => by cases e) fun _ => ⟨fun _ n11 G => ∃ j : Nat, n11 = j ∧ j ≤ n ∧ Keep h.size h G, fun _ n11 _ => n - n11.toNat, ⟨0, rfl, Nat.zero_le _, k1⟩, ?_⟩⟩
  rintro b10 n11 G ⟨j, rfl, hj, kG⟩
  refine br_intro (fun e => ?_) fun _ => ⟨kG, rfl⟩
  have e := of_decide_eq_true e
  have hq : T.pairs[j]? = some (T.pairs[j]'(by omega)) := List.getElem?_eq_getElem (by omega)
  have hmem := List.getElem_mem (by omega : j < T.pairs.length)
  generalize T.pairs[j]'(by omega) = q at hq hmem
  obtain ⟨p1, e1, r1⟩ := pr_at (hs.keep kG) hq
  refine ⟨p1, ⟨e1, by omega, e⟩, _, _, by rw [Int.toNat_natCast]; exact r1, svc_pr (w := q) rfl ?_⟩
  have bx := push_at G (prBox q)
  have kx := keep_push G (prBox q)
  have kk := kG.trans (kx.mono kG.size)
  generalize G.push (prBox q) = G2 at bx kx kk
  have hg : mGet (doneAll [] ((tw T).tabs.flatten ++ (tw T).mem)) q.1 = some q.2 := (mGet_mem (srt_nodup (srt_pairs T)) q.1 q.2).1 hmem
  refine ⟨_, pr_k bx, (lget_spec (p.keep kk) hT (by show T.tabs.flatten.length ≤ _; omega) (by show T.tabs.length ≤ _; omega) (by show T.mem.length ≤ _; omega) q.1).mono ?_⟩
  rintro vv h20 ⟨k20, rfl⟩
  rw [hg]
  refine ⟨_, _, rfl, q.2, fun _ => pr_v (k20.at bx (at_lt bx)), ?_⟩
  have hc : (!(some q.2).isSome || !((some q.2).getD (⟨#[]⟩ : Str)).toList == q.2.toList) = false := by simp
  refine br_intro (fun e => by rw [hc] at e; cases e) fun _ => ?_
  rw [wrap_i64 (by omega) (by omega)]
  exact ⟨⟨j + 1, rfl, by omega, kk.trans (k20.mono kk.size)⟩, by dsimp only; omega⟩
end
end Go.Proofs.YtkhinnchplahlaaGreatDoor
end

section
set_option linter.unusedVariables false
namespace Go.Kv
open Go Go.Vc Go.Dk

end Go.Kv
end

section
set_option linter.unusedVariables false
set_option linter.unusedSimpArgs false
namespace Go.Kv
open Go Go.Vc Go.Dk

/-- the machine's own blocks stay too. -/
theorem hc_stay {P : Program} {f : FuncId} {args : Array Value} {h : Heap} {Q : Value → Heap → Prop} (hc : HC P f args h fun v h' => Turn h h' ∧ Q v h') : HC P f args h fun v h' => Keep h.size h h' ∧ Q v h' := by
  refine ⟨fun w hw => (hc.run w hw).mono ?_⟩
  rintro e w' ⟨v, rfl, hs, t, q⟩
  refine ⟨v, rfl, hs, ⟨t.size, fun b hb => ?_⟩, q⟩
  subst hw
  have hb' : w.heap[b]? = some (w.heap[b]'hb) := Array.getElem?_eq_getElem hb
  cases hm : isMark (w.heap[b]'hb) with
  | true => rw [hb']; exact hs.marks b _ hb' hm
  | false => rw [hb']; exact t.stay b _ hb' hm
end Go.Kv
end

section
set_option linter.unusedVariables false
set_option linter.unusedSimpArgs false
set_option maxRecDepth 100000
namespace Go.Proofs.YtkhinnchplahlaaGreatDoor
open Go Go.Vc Go.Proofs Go.Dk Go.Kv Go.Ls Go.Cd
open Go.Pg (Quiet Nx layW partB nparts partsW partsW_len)

theorem keepW0 : ∀ (i : Nat) (ws : List Wt) (F : Fs), keepW 0 i ws F = F
  | _, [], F => rfl
  | i, w :: ws, F => by
    have hk : kept 0 i = false := by unfold kept; simp
    unfold keepW
    rw [hk, if_neg (by decide)]
    exact keepW0 (i + 1) ws F
def nmT : Str := ⟨#[116]⟩
def w1 : Wr := ⟨⟨#[97]⟩, ⟨#[49]⟩, false⟩
def w2 : Wr := ⟨⟨#[97]⟩, ⟨#[]⟩, true⟩
def w3 : Wr := ⟨⟨#[98]⟩, ⟨#[50]⟩, false⟩
def T0 : TS := ⟨[], [], [], [], 0⟩
theorem put_nil (n : Str) (P : List Str) : put n P [] = [(n, P)] := rfl
theorem put_one (n : Str) (P Q : List Str) : put n P [(n, Q)] = [(n, P)] := by
  unfold put
  rw [if_pos rfl]
theorem pgs_one (n : Str) (P : List Str) : pgs [(n, P)] n = P := by
  unfold pgs mGet
  rw [if_pos rfl]; rfl
theorem off0_now {x : D} (hd : x.down = false) {n : Str} {P Q : List Str} (hn : x.now = [(n, P)]) (hs : x.safe = [(n, Q)]) : (Dk.on (off 0 x)).now = [(n, Q)] := by
  show (off 0 x).now = _
  unfold off
  rw [if_neg (by rw [hd]; decide)]
  show offS 0 x = _
  unfold offS
  rw [keepW0, hn, hs]
  show addN [(n, Q)] n = _
  unfold addN mGet
  rw [if_pos rfl]
theorem bs_w23 : bsCells Tryz.prog 32 2 [(0, Value.agg (Array.mk [Value.string (ByteArray.mk (Array.mk [(97 : UInt8)])), Value.string (ByteArray.mk (Array.mk [])), Value.bool true])), (1, Value.agg (Array.mk [Value.string (ByteArray.mk (Array.mk [(98 : UInt8)])), Value.string (ByteArray.mk (Array.mk [(50 : UInt8)])), Value.bool false]))] = some (42, [w2, w3].flatMap WrE.enc) := by kernel_rfl
theorem new_dn (h : Heap) (room : Int) : HC Tryz.prog 10 #[.int .i64 room] h fun v h' => Keep h.size h h' ∧ ∃ d, v = .pointer (some ⟨d, 0, none⟩) ∧ DN (fun q => q < h.size) d (Dk.new room) h' :=
  (new_spec h room).mono fun v h' ⟨k, d, e, hd⟩ => ⟨k, d, e, _, hd, fun q h1 h2 => by omega, fun q hq => Nat.lt_of_lt_of_le hq k.size⟩
theorem new_quiet (room : Int) : Quiet (Dk.new room) := ⟨rfl, rfl⟩
set_option maxHeartbeats 4000000 in
theorem alive11_spec {h : Heap} (tab : TabH h) : HC Tryz.prog 8 #[] h fun v h' => Keep h.size h h' ∧ v = .bool true := by
  refine hc_stay ?_
  have hgb : gb < h.size := by obtain ⟨a, b, hb⟩ := tab; exact at_lt hb
  refine HC_of_vc (args := []) (base := 63) (cuts := []) (bigs := []) kM Tryz.func8 ?_
  rw [vc11Alive]
  refine (new_dn h 60).mono ?_
  rintro v h1 ⟨k1, d, rfl, dn1⟩
  have z1 := k1.size
  have tab1 := tab.updM k1.m (S := fun _ => False) id
  have tf0 : TF nmT (Dk.new 60).now T0 := TF.new List.Pairwise.nil fun f _ => rfl
  have hroom : (Dk.new 60).room = 60 := by decide
  refine ⟨_, rfl, (topen_spec (T := T0) (nm := nmT) dn1 (by decide) tab1 hgb tf0 (new_quiet 60) (by decide) (by decide) (by decide) (by decide) (by decide) (fun f hf => by cases hf) (by decide) (by decide)).mono ?_⟩
  rintro v h4 ⟨k4, t, g0, rfl, tr0, g0n, ht⟩
  have z4 := k4.size
  have dn4 : DN (Nv (fun q => q < h.size) h1 h4) d (Dk.new 60) h4 := dn1.wide2 k4
  refine ⟨_, _, rfl, br_intro (fun _ => ?_) fun e => by simp at e⟩
  have k8 := keep_push h4 (.cells (WrE.enc w1).toArray 42 (0, 0))
  have o8 : Vc.Own WrE 42 h4.size _ (some ⟨h4.size, 0, none⟩) 1 1 [w1] := own_box (E := WrE) (n := 1) rfl (Nat.le_refl h4.size) (push_at h4 (.cells (WrE.enc w1).toArray 42 (0, 0)))
  have z8 : (h4.push (.cells (WrE.enc w1).toArray 42 (0, 0))).size = h4.size + 1 := by simp
  refine svc_buildSlice (bs_wr w1) ⟨_, _, _, rfl, ?_⟩
  show HC _ _ _ (h4.push (.cells (WrE.enc w1).toArray 42 (0, 0))) _
  generalize h4.push (.cells (WrE.enc w1).toArray 42 (0, 0)) = h8 at k8 o8 z8
  have dn8 : DN (Nv (Nv (fun q => q < h.size) h1 h4) h4 h8) d (Dk.new 60) h8 := dn4.wide2 k8
  have tab8 := (tab1.updM k4.m (S := fun _ => False) id).updM k8.m (S := fun _ => False) id
  have g0b : g0 gb = 0 := by
    by_cases h0 : g0 gb = 0
    · exact h0
    · have := g0n _ h0; omega
  have hbl : ∀ q, blk (some (⟨h4.size, 0, none⟩ : Addr)) q → q = h4.size := fun q ⟨p, e1, e2⟩ => by cases e1; exact e2.symm
  have l1 : long [w1] = false := by decide
  refine (lapply_spec (T := T0) (u := 0) (nm := nmT) (tr0.keep k8) (by decide) tab8 ⟨.inl (.inl hgb), g0b⟩ dn8 (fun q hq => .inl (.inr (g0n q hq))) tf0 (new_quiet 60) Few.new (fun _ => by omega) o8.sl (Nat.le_refl _) (by omega) (fun _ q hq => ⟨.inr (by have := hbl q hq; omega), ?_⟩) (by decide) (by decide)).mono ?_
  · by_cases h0 : g0 q = 0
    · exact h0
    · have := g0n _ h0
      have := hbl q hq
      omega
  rintro v h13 hv
  have f1 : (frameB (recB (T0.last + 1) [w1])).length ≤ 510 := by
    have := recB_size (n := T0.last + 1) (l := [w1]) (long_fit l1).1 (by decide) (by decide)
    have e : (216 * [w1].length + 30) = 246 := rfl
    have := frameB_le (s := recB (T0.last + 1) [w1]) (by omega)
    omega
  have lb0 : logB T0.recs = [] := rfl
  rcases hv with ⟨h0, _⟩ | ⟨_, h0, _⟩ | ⟨_, _, _, _, _, hno⟩ | ⟨_, _, rfl, g1, x1, T1, tr1, ap1⟩
  · rw [l1] at h0; cases h0
  · cases h0
  · exfalso
    rw [lb0, List.nil_append] at hno
    have hf : Dk.free (Dk.new 60) = 60 := by decide
    rw [hf] at hno
    unfold npg at hno
    omega
  obtain ⟨sf1, ws1, rfl, nw1⟩ := ap1.small (by decide) (by decide)
  rw [lb0, List.nil_append] at nw1
  have hN13 := tr1.dn
  have hgz : ∀ {q}, g1 q ≠ 0 → (Nv (Nv (fun q => q < h.size) h1 h4) h4 h8 q ∨ g1 q ≠ 0) := fun hq => .inr hq
  have r1 : x1.room ≤ 100000000 := by rw [ap1.room]; decide
  have wl0 : (Dk.new 60).waits.length = 0 := rfl
  refine ⟨_, rfl, br_intro (fun _ => ?_) fun e => by cases e⟩
  refine (tsync_spec tr1.tr hN13 (fun q hq => .inr hq) ap1.q (by omega)).mono ?_
  rintro v h16 ⟨rfl, dn16, tr16, u16, q2, n2, room2, wt2⟩
  have hhas : Dk.has x1 nmT = true := by
    unfold Dk.has
    rw [nw1, ap1.q.down]
    have : (Dk.new 60).now = [] := rfl
    rw [this, put_nil]
    unfold mGet
    rw [if_pos rfl]; rfl
  have nw1' : x1.now = [(nmT, lpages (frameB (recB (T0.last + 1) [w1])))] := nw1
  have sf2 : (syncX nmT x1).safe = [(nmT, lpages (frameB (recB (T0.last + 1) [w1])))] := by
    have hsm : (mGet x1.now nmT).isSome = true := by rw [nw1']; unfold mGet; rw [if_pos rfl]; rfl
    unfold syncX
    rw [if_pos hhas]
    unfold Dk.sync
    rw [Pg.may_nx ap1.q hsm]
    dsimp only
    rw [if_pos rfl]
    show put nmT (pgs x1.now nmT) x1.safe = _
    rw [sf1, nw1', pgs_one]; rfl
  generalize syncX nmT x1 = x2 at dn16 q2 n2 room2 wt2 sf2
  have z13 := tr1.up.size
  have z16 := u16.size
  refine ⟨_, rfl, br_intro (fun _ => ?_) fun e => by cases e⟩
  have k19 := keep_push h16 (.cells ([w2, w3].flatMap WrE.enc).toArray 42 (0, 0))
  have o19 : Vc.Own WrE 42 h16.size _ (some ⟨h16.size, 0, none⟩) 2 2 [w2, w3] := own_box (E := WrE) (n := 2) rfl (Nat.le_refl h16.size) (push_at h16 (.cells ([w2, w3].flatMap WrE.enc).toArray 42 (0, 0)))
  have z19 : (h16.push (.cells ([w2, w3].flatMap WrE.enc).toArray 42 (0, 0))).size = h16.size + 1 := by simp
  refine svc_buildSlice bs_w23 ⟨_, _, _, rfl, ?_⟩
  show HC _ _ _ (h16.push (.cells ([w2, w3].flatMap WrE.enc).toArray 42 (0, 0))) _
  generalize h16.push (.cells ([w2, w3].flatMap WrE.enc).toArray 42 (0, 0)) = h19 at k19 o19 z19
  have dn19 := dn16.wide2 k19
  have hbl2 : ∀ q, blk (some (⟨h16.size, 0, none⟩ : Addr)) q → q = h16.size := fun q ⟨p, e1, e2⟩ => by cases e1; exact e2.symm
  have l2 : long [w2, w3] = false := by decide
  have gb1 : g1 gb = 0 := by rw [tr1.ext gb (by omega)]; exact g0b
  have tab13 : TabH h13 := tab8.updM tr1.up fun h5 => by
    rw [g0b] at h5
    rcases h5 with h5 | h5 | h5 | h5 | h5
    · exact h5 (.inl (.inl hgb))
    · cases h5
    · cases h5
    · cases h5
    · cases h5
  have tab16 := tab13.updM u16 fun hn => hn (.inl (.inl (.inl hgb)))
  have g1lt := tr16.lt
  refine (lapply_spec (T := appS T0 [w1]) (u := 1) (nm := nmT) (tr16.keep k19) (by decide) (tab16.updM k19.m (S := fun _ => False) id) ⟨.inl (.inl (.inl (.inl hgb))), gb1⟩ dn19 (fun q hq => .inl (.inr hq)) (by rw [n2]; exact ap1.tf) q2 ap1.few (fun _ => by omega) o19.sl (Nat.le_refl _) (by omega) (fun _ q hq => ⟨.inr (by have := hbl2 q hq; omega), ?_⟩) (by omega) (by rw [room2]; exact r1)).mono ?_
  · by_cases h0 : g1 q = 0
    · exact h0
    · have := g1lt _ h0
      have := hbl2 q hq
      omega
  rintro v h24 hv
  have f2 : (frameB (recB ((appS T0 [w1]).last + 1) [w2, w3])).length ≤ 510 := by
    have := recB_size (n := (appS T0 [w1]).last + 1) (l := [w2, w3]) (long_fit l2).1 (by decide) (by decide)
    have e : (216 * [w2, w3].length + 30) = 462 := rfl
    have := frameB_le (s := recB ((appS T0 [w1]).last + 1) [w2, w3]) (by omega)
    omega
  have lb1 : logB (appS T0 [w1]).recs = frameB (recB (T0.last + 1) [w1]) := by
    show logB ([] ++ [(T0.last + 1, [w1])]) = _
    rw [logB_snoc]; rfl
  rcases hv with ⟨h0, _⟩ | ⟨_, h0, _⟩ | ⟨_, _, _, _, _, hno⟩ | ⟨_, _, rfl, g3, x3, T3, tr3, ap3⟩
  · rw [l2] at h0; cases h0
  · cases h0
  · exfalso
    have hf : Dk.free x2 = 60 - (lpages (frameB (recB (T0.last + 1) [w1]))).length := by
      unfold Dk.free
      rw [room2, ap1.room, n2, nw1']
      have : tot [(nmT, lpages (frameB (recB (T0.last + 1) [w1])))] = (lpages (frameB (recB (T0.last + 1) [w1]))).length := by simp [tot]
      rw [this]; rfl
    rw [hf, lpages_len, lb1, List.length_append] at hno
    unfold npg at hno
    omega
  obtain ⟨sf3, ws3, rfl, nw3⟩ := ap3.small (by decide) (by decide)
  refine ⟨_, rfl, br_intro (fun e => by cases e) fun _ => ?_⟩
  have w3l : x3.waits.length ≤ 100000000 := by omega
  refine (tr3.dn.off (keep := 0) ⟨by omega, by omega⟩ (by omega)).mono ?_
  rintro v h27 ⟨st27, rfl⟩
  refine ⟨rfl, (st27.dn.on).mono ?_⟩
  rintro v h29 ⟨st29, rfl⟩
  have nw5 : (Dk.on (off 0 x3)).now = x1.now := by
    rw [nw1']
    refine off0_now (P := lpages (logB (appS T0 [w1]).recs ++ frameB (recB ((appS T0 [w1]).last + 1) [w2, w3]))) ap3.q.down ?_ ?_
    · rw [nw3, n2, nw1', put_one]
    · rw [sf3]; exact sf2
  have q5 : Quiet (Dk.on (off 0 x3)) := by
    refine ⟨rfl, ?_⟩
    show (off 0 x3).fuse = 0
    unfold off
    rw [if_neg (by rw [ap3.q.down]; decide)]
  have z24 := tr3.up.size
  have z27 := st27.up.size
  have z29 := st29.up.size
  -- what was there stays
  have old : ∀ {q}, q < h.size → g0 q = 0 := fun hq => by
    rename_i q
    by_cases h0 : g0 q = 0
    · exact h0
    · have := g0n _ h0; omega
  have old1 : ∀ {q}, q < h.size → g1 q = 0 := fun hq => by rw [tr1.ext _ (by omega)]; exact old hq
  have five : ∀ {k : Nat}, k = 0 → ¬ (k = 1 ∨ k = 2 ∨ k = 3 ∨ k = 4) := fun h => by omega
  have U : UpdM (fun q => h.size ≤ q) h h29 := by
    have e1 : UpdM (fun q => h.size ≤ q) h h8 := (k1.trans ((k4.mono z1).trans (k8.mono (by omega)))).m
    refine e1.trans ((tr1.up.mono fun q hq => ?_).trans ((u16.mono fun q hq => ?_).trans (k19.m.trans ((tr3.up.mono fun q hq => ?_).trans ((st27.up.mono fun q hq => ?_).trans (st29.up.mono fun q hq => ?_))))))
    · by_cases hlt : h.size ≤ q
      · exact hlt
      · rcases hq with hq | hq
        · exact absurd (.inl (.inl (by omega))) hq
        · exact absurd hq (five (old (by omega)))
    · by_cases hlt : h.size ≤ q
      · exact hlt
      · exact absurd (.inl (.inl (.inl (by omega)))) hq
    · by_cases hlt : h.size ≤ q
      · exact hlt
      · rcases hq with hq | hq
        · exact absurd (.inl (.inl (.inl (.inl (by omega))))) hq
        · exact absurd hq (five (old1 (by omega)))
    · by_cases hlt : h.size ≤ q
      · exact hlt
      · exact absurd (.inl (.inl (.inl (.inl (.inl (by omega)))))) hq
    · by_cases hlt : h.size ≤ q
      · exact hlt
      · exact absurd (.inl (.inl (.inl (.inl (.inl (by omega)))))) hq
  have tab29 : TabH h29 := tab.updM U (by omega)
  have tf5 : TF nmT (Dk.on (off 0 x3)).now (appS T0 [w1]) := by rw [nw5]; exact ap1.tf
  have hlb : (logB (appS T0 [w1]).recs).length ≤ 510 := by rw [lb1]; exact f1
  refine ⟨rfl, (topen_spec (T := appS T0 [w1]) (nm := nmT) st29.dn (by decide) tab29 (.inl (.inl (.inl (.inl (.inl hgb))))) tf5 q5 (by decide) (by decide) (by decide) (by decide) (by decide) (fun f hf => ?_) ?_ (by omega)).mono ?_⟩
  · rw [nw5, nw1'] at hf
    have : f = nmT := by simpa [mKeys] using hf
    rw [this]; decide
  · rw [nw5, nw1']; decide
  rintro v h31 ⟨k31, t2, g5, rfl, tr5, _, _⟩
  have hp1 : doneAll [] ((tw (appS T0 [w1])).tabs.flatten ++ (tw (appS T0 [w1])).mem) = [(⟨#[97]⟩, ⟨#[49]⟩)] := by rfl
  refine ⟨_, _, rfl, (lget_spec tr5 (fun U hU => by cases hU) (by decide) (by decide) (by decide) ⟨#[97]⟩).mono ?_⟩
  rintro v h35 ⟨k35, rfl⟩
  rw [hp1]
  have hg : mGet [((⟨#[97]⟩ : Str), (⟨#[49]⟩ : Str))] ⟨#[97]⟩ = some ⟨#[49]⟩ := by unfold mGet; rw [if_pos rfl]
  rw [hg]
  refine ⟨_, _, rfl, ?_⟩
  have hc : ((0 : Int) == 0 && (some (⟨#[49]⟩ : Str)).isSome && (((some (⟨#[49]⟩ : Str)).getD ⟨#[]⟩).toList == ([49] : List UInt8))) = true := by
    rw [Option.getD_some, ByteArray.toList_eq]; rfl
  show br ((0 : Int) == 0 && (some (⟨#[49]⟩ : Str)).isSome && (((some (⟨#[49]⟩ : Str)).getD ⟨#[]⟩).toList == ([49] : List UInt8))) _ _
  refine br_intro (fun _ => (lscan_spec (tr5.keep k35) (by decide) (by decide) ⟨#[]⟩ 9).mono ?_) fun e => by rw [hc] at e; cases e
  rintro v h45 ⟨k45, a, c, rfl, _, _⟩
  rw [hp1]
  have hs1 : (Kv.scan [((⟨#[97]⟩ : Str), (⟨#[49]⟩ : Str))] ⟨#[]⟩ 9).length = 1 := by
    unfold Kv.scan
    rw [List.filter_eq_self.2 fun p _ => by rw [lt_empty]; rfl]
    rfl
  have kk := k31.trans ((k35.mono k31.size).trans (k45.mono (Nat.le_trans k31.size k35.size)))
  refine ⟨_, _, _, rfl, (U.trans kk.m).turn fun q hq => by omega, ?_⟩
  rw [hs1]; rfl
end Go.Proofs.YtkhinnchplahlaaGreatDoor
end

section
set_option linter.unusedVariables false
namespace Go.Vc
open Go Go.RowKit

/-- as DecW, of data whose parts are no longer than memory reaches. -/
def DecZ {α : Type} (E : Enc α) (P : Program) (e : TypeId) (good : World → α → Prop) : Prop :=
  ∀ {H : Type} {enc : TypeId × Value → H} {w : World} {base : Nat} {spare : Nat → Bool} {held : Bool} {n : Nat} {cs : List Value} {d : DataW H × List MemPlace},
    DataW.trod enc P w base spare held n e cs = some d → (∀ k ∈ d.1.weights P e, k ≤ reachBytes) → ∃ x, cs = E.enc x ∧ good w x
theorem DecW.z {α : Type} {E : Enc α} {P : Program} {e : TypeId} {good : World → α → Prop} (h : DecW E P e good) : DecZ E P e good := fun hd _ => h hd
theorem decStrZ {P : Program} {e : TypeId} (he : P.underlying e = some .string) : DecZ StrE P e fun _ s => s.size ≤ reachBytes := fun {H enc w base spare held n cs d} h hw => by
  obtain ⟨s, rfl, rfl, hs⟩ := DataW.trod_string he h
  refine ⟨s, rfl, ?_⟩
  have := hw s.data.toList.length (by simp [DataW.weights])
  rw [Array.length_toList] at this
  exact this
theorem weights_mem_all {H : Type} {P : Program} {e : TypeId} : ∀ {l : List (DataW H)} {d : DataW H}, d ∈ l → ∀ k ∈ d.weights P e, k ∈ DataW.weightsAll P e l
  | x :: l, d, hd, k, hk => by
    simp only [DataW.weightsAll, List.mem_append]
    rcases List.mem_cons.1 hd with rfl | hd
    · exact .inl hk
    · exact .inr (weights_mem_all hd k hk)
theorem decSliceZ {α : Type} [Inhabited α] {E : Enc α} {good : World → α → Prop} {P : Program} {t e : TypeId} (ht : P.underlying t = some (.slice e)) (ce : P.cellsOf e = E.sz) (cb : 0 < P.bytesOf e) (dec : DecZ E P e good) :
    DecZ SliceE P t fun w s => SlG E good w s ∧ s.2.1 ≤ reachBytes := fun {H enc w base spare held fuel cs d} hf hw => by
  rcases DataW.trod_slice ht hf with ⟨hcs, _⟩ | ⟨x, len, cap, elems, rest, n, _, hcs, hd, hb, hl, hm, hel, hx, _⟩
  · exact ⟨(none, 0, 0), hcs, ⟨[], Sl.nil _ _, Nat.le_refl _, by show (0 : Nat) ≤ _; omega, by simp⟩, Nat.zero_le _⟩
  · subst hd
    have hwt : DataW.weights P t (DataW.slice (elems.map (·.1)) (rest.map (·.1))) = ((elems.map (·.1)).length + (rest.map (·.1)).length) * P.bytesOf e :: (DataW.weightsAll P e (elems.map (·.1)) ++ DataW.weightsAll P e (rest.map (·.1))) := by
      simp [DataW.weights, ht]
    dsimp only at hw
    rw [hwt] at hw
    have hlen : len ≤ reachBytes := by
      have h1 := hw _ List.mem_cons_self
      rw [List.length_map, hel] at h1
      have h2 : len + (rest.map (·.1)).length ≤ (len + (rest.map (·.1)).length) * P.bytesOf e := Nat.le_mul_of_pos_right _ cb
      omega
    unfold maxLen at hm
    refine ⟨(some x, len, cap), hcs, ?_, hlen⟩
    have each : ∀ i, i < len → ∃ y : α, (∀ j v, (E.enc y)[j]? = some v → cell w.heap (x.add (i * E.sz + j)) = some v) ∧ good w y := fun i hi => by
      have h1 := hx i hi
      have hi2 : i < elems.length := by omega
      rw [List.getElem?_eq_getElem hi2, ce] at h1
      obtain ⟨cs', h2, h3⟩ := Option.bind_eq_some_iff.1 h1
      obtain ⟨_, hlen, hcell⟩ := World.cells?_some h2
      obtain ⟨y, rfl, hg⟩ := dec h3 fun k hk => hw k (List.mem_cons_of_mem _ (List.mem_append_left _ (weights_mem_all (List.mem_map_of_mem (f := fun p : DataW H × List MemPlace => p.1) (List.getElem_mem hi2)) k hk)))
      refine ⟨y, fun j v hv => ?_, hg⟩
      have hj : j < E.sz := by rw [← E.len y]; exact (List.getElem?_eq_some_iff.1 hv).1
      have := hcell j hj
      rw [Addr.add_add] at this
      rw [← cell_eq, this, hv]
    obtain ⟨X, hX⟩ := Deep.choose_lt each
    refine ⟨(List.range len).map X, ⟨by simp, .inr ⟨x, rfl, fun i y hy j v hv => ?_⟩⟩, hl, by show len ≤ _; omega, fun y hy => ?_⟩
    · have hi : i < len := by have := (List.getElem?_eq_some_iff.1 hy).1; simpa using this
      simp [hi] at hy
      subst hy
      exact (hX i hi).1 j v hv
    · obtain ⟨i, hi, rfl⟩ := List.mem_map.1 hy
      exact (hX i (List.mem_range.1 hi)).2
theorem open_slZ {α : Type} [Inhabited α] {E : Enc α} {good : World → α → Prop} {P : Program} {t e : TypeId} {H : Type} {enc : TypeId × Value → H} {w : World} {base : Nat} {spare : Nat → Bool} {held : Bool} {a : Option Addr} {n c : Nat} {d : DataW H} {ps : List MemPlace}
    (ht : P.underlying t = some (.slice e)) (ce : P.cellsOf e = E.sz) (cb : 0 < P.bytesOf e) (dec : DecZ E P e good) (h : DataW.Trod enc P w base spare held t (.slice a n c) d ps) (hw : ∀ k ∈ d.weights P t, k ≤ reachBytes) : SlG E good w (a, n, c) := by
  obtain ⟨fuel, hf⟩ := h
  obtain ⟨s, e0, g⟩ := decSliceZ ht ce cb dec hf hw
  have : (a, n, c) = s := by
    simp [Value.cells, SliceE] at e0
    obtain ⟨rfl, rfl, rfl⟩ := e0
    rfl
  rw [this]; exact g.1
/-- a part's sizes, out of all of them. -/
theorem weights_at {H : Type} {P : Program} {ts : List TypeId} {ds : List (DataW H)} (h : (DataW.weightsEach P ts ds).all (· ≤ reachBytes) = true) {j : Nat} {t : TypeId} {d : DataW H} (ht : ts[j]? = some t) (hd : ds[j]? = some d) : ∀ k ∈ d.weights P t, k ≤ reachBytes := fun k hk => by
  have := List.all_eq_true.1 h k (DataW.weights_mem_each ht hd k hk)
  exact of_decide_eq_true this
/-- a struct's field, with its sizes. -/
theorem fldZ {H : Type} {enc : TypeId × Value → H} {P : Program} {w : World} {base : Nat} {spare : Nat → Bool} {held : Bool} {n : Nat} {u : TypeId} {cs : List Value} {fs : Array Field} {xs : List (DataW H × List MemPlace)} (hu : P.underlying u = some (.struct fs))
    (h : ∀ (i : Nat) (f : Field), fs[i]? = some f → DataW.trod enc P w base spare held n f.type ((cs.drop f.offset).take (P.cellsOf f.type)) = xs[i]?) (hl : xs.length = fs.size)
    (hw : ∀ k ∈ (DataW.agg (xs.map (·.1)) : DataW H).weights P u, k ≤ reachBytes) (i : Nat) {f : Field} {t : TypeId} {o : Nat}
    (hf : fs[i]? = some f) (ht : f.type = t) (ho : f.offset = o) (hc : P.cellsOf f.type = 1) : ∃ x, DataW.trod enc P w base spare held n t ((cs.drop o).take 1) = some x ∧ ∀ k ∈ x.1.weights P t, k ≤ reachBytes := by
  have hi : i < xs.length := by rw [hl]; exact (Array.getElem?_eq_some_iff.1 hf).1
  have := h i f hf
  rw [ht, ho, ← ht, hc, ht, List.getElem?_eq_getElem hi] at this
  refine ⟨_, this, fun k hk => hw k ?_⟩
  have hwt : (DataW.agg (xs.map (·.1)) : DataW H).weights P u = DataW.weightsEach P (fs.toList.map (·.type)) (xs.map (·.1)) := by simp [DataW.weights, hu]
  rw [hwt]
  refine DataW.weights_mem_each (j := i) (t := t) (d := xs[i].1) ?_ ?_ k hk
  · rw [List.getElem?_map, Array.getElem?_toList, hf, ← ht]; rfl
  · rw [List.getElem?_map, List.getElem?_eq_getElem hi]; rfl
end Go.Vc
end

section
set_option linter.unusedVariables false
set_option linter.unusedSimpArgs false
set_option maxRecDepth 100000
namespace Go.Proofs.YtkhinnchplahlaaGreatDoor
open Go Go.Vc Go.Proofs Go.Dk Go.Kv Go.Ls Go.Cd
open Go.Pg (Quiet Nx)

/-- a step of a tree. -/
structure Sp where
  a : Option Addr
  ln : Nat
  cp : Nat
  from_ : Str
  n : Int
  sync : Bool
  again : Bool
  fuse : Int
  keep : Int
  ws : List Wr
instance : Inhabited Sp := ⟨⟨none, 0, 0, ⟨#[]⟩, 0, false, false, 0, 0, []⟩⟩
def SpE : Enc Sp := ⟨7, fun c => [.slice c.a c.ln c.cp, .string c.from_, .int .i64 c.n, .bool c.sync, .bool c.again, .int .i64 c.fuse, .int .u64 c.keep], fun _ => rfl, fun q v hv => by
  simp only [List.mem_cons, List.not_mem_nil, or_false] at hv
  rcases hv with rfl | rfl | rfl | rfl | rfl | rfl | rfl
  · exact one_slice _ _ _
  · exact one_string _
  · exact one_int _ _
  · exact one_bool _
  · exact one_bool _
  · exact one_int _ _
  · exact one_int _ _⟩
def WrOk (w : Wr) : Prop := w.key.size ≤ reachBytes ∧ w.val.size ≤ reachBytes
def SpOk (h : Heap) (c : Sp) : Prop := Sl WrE h c.a c.ln c.ws ∧ c.ln ≤ c.cp ∧ c.ln ≤ reachBytes ∧ (∀ w ∈ c.ws, WrOk w) ∧ c.from_.size ≤ reachBytes ∧ c.n ≤ 9223372036854775807
theorem uI : Tryz.prog.underlying 3 = some (.int .i64) := by kernel_rfl
theorem uU64 : Tryz.prog.underlying 33 = some (.int .u64) := by kernel_rfl
theorem uB : Tryz.prog.underlying 4 = some .bool := by kernel_rfl
theorem uW : Tryz.prog.underlying 42 = some (.struct #[(Tryz.prog.fieldsOf 42)[0]!, (Tryz.prog.fieldsOf 42)[1]!, (Tryz.prog.fieldsOf 42)[2]!]) := by kernel_rfl
theorem uWs : Tryz.prog.underlying 32 = some (.slice 42) := by kernel_rfl
theorem uSp : Tryz.prog.underlying 35 = some (.struct #[(Tryz.prog.fieldsOf 35)[0]!, (Tryz.prog.fieldsOf 35)[1]!, (Tryz.prog.fieldsOf 35)[2]!, (Tryz.prog.fieldsOf 35)[3]!, (Tryz.prog.fieldsOf 35)[4]!, (Tryz.prog.fieldsOf 35)[5]!, (Tryz.prog.fieldsOf 35)[6]!]) := by kernel_rfl
theorem decWr : DecZ WrE Tryz.prog 42 fun _ w => WrOk w := fun {H enc w base spare held n cs d} h hw => by
  obtain ⟨xs, m, _, rfl, hl, hx, hf⟩ := DataW.trod_struct uW h
  obtain ⟨_, f0, z0⟩ := fldZ (t := 9) (o := 0) uW hf hx hw 0 rfl (by kernel_rfl) (by kernel_rfl) (by kernel_rfl)
  obtain ⟨_, f1, z1⟩ := fldZ (t := 9) (o := 1) uW hf hx hw 1 rfl (by kernel_rfl) (by kernel_rfl) (by kernel_rfl)
  obtain ⟨_, f2, _⟩ := fldZ (t := 4) (o := 2) uW hf hx hw 2 rfl (by kernel_rfl) (by kernel_rfl) (by kernel_rfl)
  have hl2 : cs.length = 3 := hl.trans (by kernel_rfl)
  match cs, hl2 with
  | [a, b, c], _ =>
    obtain ⟨s0, e0, g0⟩ := decStrZ uS f0 z0
    obtain ⟨s1, e1, g1⟩ := decStrZ uS f1 z1
    obtain ⟨s2, e2, g2⟩ := decBool uB f2
    simp [StrE, BoolE] at e0 e1 e2
    subst e0 e1 e2
    exact ⟨⟨s0, s1, s2⟩, rfl, g0, g1⟩
theorem decSp : DecZ SpE Tryz.prog 35 fun w c => SpOk w.heap c := fun {H enc w base spare held n cs d} h hw => by
  obtain ⟨xs, m, _, rfl, hl, hx, hf⟩ := DataW.trod_struct uSp h
  obtain ⟨_, f0, z0⟩ := fldZ (t := 32) (o := 0) uSp hf hx hw 0 rfl (by kernel_rfl) (by kernel_rfl) (by kernel_rfl)
  obtain ⟨_, f1, z1⟩ := fldZ (t := 9) (o := 1) uSp hf hx hw 1 rfl (by kernel_rfl) (by kernel_rfl) (by kernel_rfl)
  obtain ⟨_, f2, z2⟩ := fldZ (t := 3) (o := 2) uSp hf hx hw 2 rfl (by kernel_rfl) (by kernel_rfl) (by kernel_rfl)
  obtain ⟨_, f3, z3⟩ := fldZ (t := 4) (o := 3) uSp hf hx hw 3 rfl (by kernel_rfl) (by kernel_rfl) (by kernel_rfl)
  obtain ⟨_, f4, z4⟩ := fldZ (t := 4) (o := 4) uSp hf hx hw 4 rfl (by kernel_rfl) (by kernel_rfl) (by kernel_rfl)
  obtain ⟨_, f5, z5⟩ := fldZ (t := 3) (o := 5) uSp hf hx hw 5 rfl (by kernel_rfl) (by kernel_rfl) (by kernel_rfl)
  obtain ⟨_, f6, z6⟩ := fldZ (t := 33) (o := 6) uSp hf hx hw 6 rfl (by kernel_rfl) (by kernel_rfl) (by kernel_rfl)
  have hl2 : cs.length = 7 := hl.trans (by kernel_rfl)
  match cs, hl2 with
  | [a, b, c, d, e, f, g], _ =>
    obtain ⟨s0, e0, g0⟩ := decSliceZ uWs (by kernel_rfl) (of_decide_eq_true (by kernel_rfl)) decWr f0 z0
    obtain ⟨s1, e1, g1⟩ := decStrZ uS f1 z1
    obtain ⟨s2, e2, g2⟩ := decInt uI f2
    obtain ⟨s3, e3, g3⟩ := decBool uB f3
    obtain ⟨s4, e4, g4⟩ := decBool uB f4
    obtain ⟨s5, e5, g5⟩ := decInt uI f5
    obtain ⟨s6, e6, g6⟩ := decInt uU64 f6
    simp [StrE, IntE, BoolE, SliceE] at e0 e1 e2 e3 e4 e5 e6
    subst e0 e1 e2 e3 e4 e5 e6
    obtain ⟨⟨ps, h1, h2, h3, h4⟩, g0⟩ := g0
    exact ⟨⟨s0.1, s0.2.1, s0.2.2, s1, s2, s3, s4, s5, s6, ps⟩, rfl, h1, h2, g0, h4, g1, (i64_rng g2).2⟩
abbrev spVal (c : Sp) : Value := .agg #[.slice c.a c.ln c.cp, .string c.from_, .int .i64 c.n, .bool c.sync, .bool c.again, .int .i64 c.fuse, .int .u64 c.keep]
abbrev spBox (c : Sp) : Obj := .cells #[.slice c.a c.ln c.cp, .string c.from_, .int .i64 c.n, .bool c.sync, .bool c.again, .int .i64 c.fuse, .int .u64 c.keep] 35 (0, 0)
theorem agSp : agT Tryz.prog 35 7 = true := by kernel_rfl
theorem szSp : szOf Tryz.prog 35 = some 7 := by kernel_rfl
theorem sp_at {h : Heap} {A : Option Addr} {n k : Nat} {l : List Sp} {w : Sp} (hs : Sl SpE h A n l) (hq : l[k]? = some w) :
    ∃ p, A = some p ∧ Reads Tryz.prog (Instr.loadAt 35 (.pointer (some (p.add (k * 7))))) h (.agg (Array.mk [.slice w.a w.ln w.cp, .string w.from_, .int .i64 w.n, .bool w.sync, .bool w.again, .int .i64 w.fuse, .int .u64 w.keep])) := by
  obtain ⟨p, e, hp⟩ := hs.get hq
  exact ⟨p, e, reads_load_agg (cs := [.slice w.a w.ln w.cp, .string w.from_, .int .i64 w.n, .bool w.sync, .bool w.again, .int .i64 w.fuse, .int .u64 w.keep]) agSp rfl fun j v hv => by rw [Addr.add_add]; exact hp j v hv⟩
theorem svc_sp {w : Sp} {h : Heap} {old : Array Value} {K : Unit → Heap → Prop} (ho : old.size = 7) (k : K () (h.push (spBox w))) :
    SVC Tryz.prog (Instr.storeAt 35 (.pointer (some ⟨h.size, 0, none⟩)) (.agg (Array.mk [.slice w.a w.ln w.cp, .string w.from_, .int .i64 w.n, .bool w.sync, .bool w.again, .int .i64 w.fuse, .int .u64 w.keep]))) (h.push (.cells old 35 (0, 0))) K :=
  svc_store_new (v := spVal w) szSp ho (fun v hv => SpE.one w v hv) k
section
variable {w : Sp} {h : Heap} {b : Nat}
theorem sp_ws (hb : h[b]? = some (spBox w)) : Reads Tryz.prog (Instr.loadAt 32 (.pointer (some ⟨b, 0, none⟩))) h (.slice w.a w.ln w.cp) := reads_load kWsL (cell_cells0 hb rfl)
theorem sp_from (hb : h[b]? = some (spBox w)) : Reads Tryz.prog (Instr.loadAt 9 (.pointer (some ((⟨b, 0, none⟩ : Addr).add 1)))) h (.string w.from_) := reads_load kS (cell_cells hb rfl)
theorem sp_n (hb : h[b]? = some (spBox w)) : Reads Tryz.prog (Instr.loadAt 3 (.pointer (some ((⟨b, 0, none⟩ : Addr).add 2)))) h (.int .i64 w.n) := reads_load kI (cell_cells hb rfl)
theorem sp_sync (hb : h[b]? = some (spBox w)) : Reads Tryz.prog (Instr.loadAt 4 (.pointer (some ((⟨b, 0, none⟩ : Addr).add 3)))) h (.bool w.sync) := reads_load kB (cell_cells hb rfl)
end
theorem SpOk.updM {h h' : Heap} {w : Sp} {S : Nat → Prop} (hw : SpOk h w) (t : UpdM S h h') (hs : w.ln ≠ 0 → ∀ q, blk w.a q → ¬ S q) : SpOk h' w := ⟨hw.1.updM t hs, hw.2⟩
theorem sl_lt {α : Type} {E : Enc α} {h : Heap} {a : Option Addr} {n : Nat} {xs : List α} (hz : 0 < E.sz) (hs : Sl E h a n xs) (hx : n ≠ 0) : ∀ q, blk a q → q < h.size := fun q hq => by
  cases xs with
  | nil => exact absurd hs.1.symm hx
  | cons x xs =>
    obtain ⟨p, hp, hc⟩ := hs.get (i := 0) (x := x) rfl
    obtain ⟨p', e, hq'⟩ := hq
    rw [hp] at e
    cases e
    have hj : 0 < (E.enc x).length := by rw [E.len]; exact hz
    have h4 := cell_lt (hc 0 _ (List.getElem?_eq_getElem hj))
    rw [Addr.add_block, hq'] at h4
    exact h4
/-- writes of the first steps. -/
def sumW (l : List Sp) : Nat := (l.map fun s => s.ws.length).sum
theorem sumW_take {l : List Sp} {j : Nat} {x : Sp} (h : l[j]? = some x) : sumW (l.take (j + 1)) = sumW (l.take j) + x.ws.length := by
  obtain ⟨hj, e⟩ := List.getElem?_eq_some_iff.1 h
  unfold sumW
  rw [List.take_succ_eq_append_getElem hj, e, List.map_append, List.sum_append]
  simp
theorem sumW_le (l : List Sp) (j : Nat) : sumW (l.take j) ≤ sumW l := by
  unfold sumW
  conv => rhs; rw [← List.take_append_drop j l, List.map_append, List.sum_append]
  omega
set_option maxHeartbeats 2000000 in
theorem great11_spec {h : Heap} {A : Option Addr} {n c : Nat} {l : List Sp} (hs : Sl SpE h A n l) (hok : ∀ x ∈ l, SpOk h x) (hn : n ≤ 9223372036854775807) :
    HC Tryz.prog 9 #[.slice A n c] h fun v h' => Keep h.size h h' ∧ ∃ b, v = .bool b ∧ (b = false → n ≤ 60 ∧ sumW l ≤ 1000) := by
  have hl := hs.1
  refine HC_of_vc (args := [.slice A n c]) (base := 49) (cuts := []) (bigs := []) kM Tryz.func9 ?_
  rw [vc11Great]
  refine ⟨fun _ n3 n4 H => ∃ i : Nat, n4 = i ∧ i ≤ n ∧ Keep h.size h H ∧ (sumW (l.take i) : Int) ≤ n3 ∧ 0 ≤ n3 ∧ n3 ≤ 1000, fun _ _ n4 _ => n - n4.toNat, ⟨0, rfl, Nat.zero_le _, Keep.refl _ _, by simp [sumW], by omega, by omega⟩, ?_⟩
  rintro b2 n3 n4 H ⟨i, rfl, hi, kH, hsum, hn0, hn1⟩
  refine br_intro (fun hlt => ?_) fun hge => ?_
  · have hlt := of_decide_eq_true hlt
    have hq : l[i]? = some (l[i]'(by omega)) := List.getElem?_eq_getElem (by omega)
    have hm := List.getElem_mem (by omega : i < l.length)
    generalize l[i]'(by omega) = x at hq hm
    obtain ⟨p, eA, rd⟩ := sp_at (hs.keep kH) hq
    obtain ⟨wsl, _, hln, wok, hfs, _⟩ := hok x hm
    have hwl := wsl.1
    have hst := sumW_take hq
    refine ⟨p, ⟨eA, by omega, by omega⟩, _, _, _, _, _, _, _, _, _, by rw [Int.toNat_natCast]; exact rd, svc_sp rfl ?_⟩
    have kb := keep_push H (spBox x)
    have bb := push_at H (spBox x)
    generalize H.push (spBox x) = H2 at kb bb
    have kH2 := kH.trans (kb.mono kH.size)
    refine ⟨_, _, _, sp_ws bb, _, sp_from bb, br_intro (fun _ => ⟨kH2, true, rfl, fun e => by cases e⟩) fun e1 => ?_⟩
    have e1 := of_decide_eq_false e1
    have hrb : reachBytes ≤ 140737488355328 := by decide
    have hw1 : IntKind.i64.wrap (((x.ln : Nat) : Int) + (x.from_.size : Int)) = (x.ln : Int) + (x.from_.size : Int) := wrap_i64 (by omega) (by omega)
    rw [hw1] at e1 ⊢
    have hw2 : IntKind.i64.wrap (n3 + ((x.ln : Int) + (x.from_.size : Int))) = n3 + ((x.ln : Int) + (x.from_.size : Int)) := wrap_i64 (by omega) (by omega)
    rw [hw2] at e1 ⊢
    refine ⟨_, _, _, sp_ws bb, fun _ n28 n29 G => ∃ k : Nat, n29 = k ∧ k ≤ x.ln ∧ Keep h.size h G ∧ n3 + ((x.ln : Int) + (x.from_.size : Int)) ≤ n28 ∧ n28 ≤ 1000, fun _ _ n29 _ => x.ln - n29.toNat, ⟨0, rfl, Nat.zero_le _, kH2, Int.le_refl _, by omega⟩, ?_⟩
    rintro b27 n28 n29 G ⟨k, rfl, hk, kG, h28, h28'⟩
    refine br_intro (fun e2 => ?_) fun e2 => ?_
    · have e2 := of_decide_eq_true e2
      have hqw : x.ws[k]? = some (x.ws[k]'(by omega)) := List.getElem?_eq_getElem (by omega)
      have hmw := List.getElem_mem (by omega : k < x.ws.length)
      generalize x.ws[k]'(by omega) = y at hqw hmw
      obtain ⟨y1, y2⟩ := wok y hmw
      obtain ⟨p31, ea, rd31⟩ := wr_at (wsl.keep kG) hqw
      refine ⟨p31, ⟨ea, by omega, e2⟩, _, _, _, by rw [Int.toNat_natCast]; exact rd31, svc_wr rfl ?_⟩
      have kc := keep_push G (wrBox y)
      have bc := push_at G (wrBox y)
      generalize G.push (wrBox y) = G2 at kc bc
      have kG2 := kG.trans (kc.mono kG.size)
      refine ⟨_, wr_k bc, _, wr_v bc, by decide, br_intro (fun _ => ⟨kG2, true, rfl, fun e => by cases e⟩) fun e3 => ?_⟩
      have e3 := of_decide_eq_false e3
      have hw3 : IntKind.i64.wrap ((y.key.size : Int) + (y.val.size : Int)) = ((y.key.size + y.val.size : Nat) : Int) := by rw [wrap_i64 (by omega) (by omega)]; rfl
      have hd3 : (((y.key.size + y.val.size : Nat) : Int)).tdiv (64 : Int) = (((y.key.size + y.val.size) / 64 : Nat) : Int) := rfl
      have hw4 : IntKind.i64.wrap ((((y.key.size + y.val.size) / 64 : Nat) : Int)) = (((y.key.size + y.val.size) / 64 : Nat) : Int) := wrap_i64 (by omega) (by omega)
      rw [hw3, hd3, hw4] at e3 ⊢
      have hw5 : IntKind.i64.wrap (n28 + (((y.key.size + y.val.size) / 64 : Nat) : Int)) = n28 + (((y.key.size + y.val.size) / 64 : Nat) : Int) := wrap_i64 (by omega) (by omega)
      rw [hw5] at e3 ⊢
      rw [wrap_i64 (n := (k : Int) + 1) (by omega) (by omega)]
      exact ⟨⟨k + 1, rfl, by omega, kG2, by omega, by omega⟩, by dsimp only; omega⟩
    · rw [wrap_i64 (n := (i : Int) + 1) (by omega) (by omega)]
      exact ⟨⟨i + 1, rfl, by omega, kG, by omega, by omega, h28'⟩, by dsimp only; omega⟩
  · have hge := of_decide_eq_false hge
    have hin : i = n := by omega
    subst hin
    rw [← hl, List.take_length] at hsum
    refine ⟨kH, _, rfl, fun e => ⟨by have := of_decide_eq_false e; omega, by omega⟩⟩
end Go.Proofs.YtkhinnchplahlaaGreatDoor
end

section
set_option linter.unusedVariables false
set_option maxRecDepth 100000
namespace Go.Proofs.YtkhinnchplahlaaGreatDoor
open Go Go.Vc Go.Proofs

end Go.Proofs.YtkhinnchplahlaaGreatDoor
end

section
set_option linter.unusedVariables false
set_option linter.unusedSimpArgs false
set_option maxRecDepth 100000
namespace Go.Proofs.YtkhinnchplahlaaGreatDoor
open Go Go.Vc Go.Proofs Go.Dk Go.Kv Go.Ls Go.Cd
open Go.Pg (Quiet Nx layW partB nparts partsW partsW_len)

/-- a tree on a disk, beside what was there (below B) and what is put beside it: N. -/
structure One (B : Nat) (h0 : Heap) (t d : Nat) (nm : Str) (j u : Nat) (G : Heap) (g : Nat → Nat) (N : Nat → Prop) (x : D) (T : TS) : Prop where
  tr : TrAt g G t d nm (tw T)
  dn : DN N d x G
  gN : ∀ q, g q ≠ 0 → N q
  old : ∀ q, q < B → N q ∧ g q = 0
  tf : TF nm x.now T
  q : Quiet x
  few : Few u T
  room : x.room ≤ 4096
  wt : x.waits.length ≤ 110000 * j
  fo : ∀ f, (mGet x.now f).isSome = true → f = nm ∨ under nm f
  up : UpdM (fun q => B ≤ q) h0 G
  tab : TabH G
section
variable {B t d j u : Nat} {h0 G G' : Heap} {nm : Str} {g : Nat → Nat} {N : Nat → Prop} {x : D} {T : TS}
theorem One.keep (o : One B h0 t d nm j u G g N x T) (k : Keep G.size G G') : One B h0 t d nm j u G' g N x T :=
  ⟨o.tr.keep k, o.dn.keep k, o.gN, o.old, o.tf, o.q, o.few, o.room, o.wt, o.fo, o.up.trans k.m, o.tab.updM k.m (S := fun _ => False) id⟩
theorem One.wide (o : One B h0 t d nm j u G g N x T) (k : Keep G.size G G') : One B h0 t d nm j u G' g (Nv N G G') x T :=
  ⟨o.tr.keep k, o.dn.wide2 k, fun q hq => .inl (o.gN q hq), fun q hq => ⟨.inl (o.old q hq).1, (o.old q hq).2⟩, o.tf, o.q, o.few, o.room, o.wt, o.fo, o.up.trans k.m, o.tab.updM k.m (S := fun _ => False) id⟩
theorem One.next (o : One B h0 t d nm j u G g N x T) {j' u' : Nat} (hj : j ≤ j') (hu : u ≤ u') : One B h0 t d nm j' u' G g N x T := by
  have f := o.few
  exact ⟨o.tr, o.dn, o.gN, o.old, o.tf, o.q, ⟨by have := f.names; omega, by have := f.all; omega, by have := f.next; omega, by have := f.last; omega⟩, o.room, Nat.le_trans o.wt (Nat.mul_le_mul_left _ hj), o.fo, o.up, o.tab⟩
/-- what new blocks are: no tree's. -/
theorem One.new (o : One B h0 t d nm j u G g N x T) {q : Nat} (hq : G.size ≤ q) : g q = 0 := by
  by_cases h : g q = 0
  · exact h
  · have := o.tr.lt q h; omega
theorem One.bounds (o : One B h0 t d nm j u G g N x T) (hu : u ≤ 1100) : T.names.length ≤ 90 ∧ T.next ≤ 100000 ∧ T.last < 1000000 ∧ T.tabs.flatten.length ≤ 100000 ∧ T.mem.length ≤ 100000 ∧ T.tabs.length ≤ 90 ∧ (logB T.recs).length ≤ 100000000 ∧ T.tabs.flatten.length + T.mem.length ≤ 100000 := by
  have h1 := o.few.names
  have h2 := o.few.all
  have h3 := o.few.next
  have h4 := o.few.last
  have h5 := o.tf.lens
  have h6 := o.tf.log_len o.few (by omega)
  omega
/-- writes are done. -/
theorem One.apply {A : Option Addr} {n c : Nat} {l : List Wr} (o : One B h0 t d nm j u G g N x T) (hnm : nm.size ≤ 1000000) (hgb : gb < B) (hu : long l = false → u + n ≤ 1100) (hj : j ≤ 700) (hs : Sl WrE G A n l) (hc : n ≤ c) (hn : n ≤ 9223372036854775807) (hA : n ≠ 0 → ∀ q, blk A q → N q ∧ g q = 0) (hl : long l = false) :
    HC Tryz.prog 13 #[.pointer (some ⟨t, 0, none⟩), .slice A n c] G fun vv h' =>
      (vv = .int .i64 7 ∧ One B h0 t d nm (j + 1) (u + n) h' g N x T ∧ Keep G.size G h' ∧ ¬ 2000 ≤ Dk.free x) ∨
      (vv = .int .i64 0 ∧ ∃ S g' N' x' T', One B h0 t d nm (j + 1) (u + n) h' g' N' x' T' ∧ T'.pairs = doneAll T.pairs l ∧ UpdM S G h' ∧ (∀ q, N q → g q = 0 → ¬ S q ∧ N' q ∧ (q < G.size → g' q = 0)) ∧ x'.room = x.room ∧ (2000 ≤ Dk.free x → T.tabs.length ≤ 3 → T'.tabs.length ≤ 3) ∧ tot x'.now + phi T = tot x.now + phi T' ∧ (∀ q, N' q → N q ∨ g' q ≠ 0) ∧ (∀ q, q < G.size → g' q = g q) ∧ (∀ q, N q → N' q) ∧ (∀ f, f ≠ nm → ¬ under nm f → mGet x'.now f = mGet x.now f) ∧ (∀ q, S q → ¬ N q ∨ g q ≠ 0)) := by
  have hln := hs.1
  have hw := o.wt
  have hr := o.room
  have hgb2 := o.old gb hgb
  have hB : B ≤ G.size := by
    by_cases h0 : B ≤ G.size
    · exact h0
    · have := o.dn.lt (o.old G.size (by omega)).1; omega
  refine (lapply_spec o.tr hnm o.tab hgb2 o.dn o.gN o.tf o.q o.few hu hs hc hn hA (by omega) (by omega)).mono ?_
  rintro v h' hv
  rcases hv with ⟨h0, _⟩ | ⟨_, h0, rfl, k⟩ | ⟨_, _, rfl, k, hno, _⟩ | ⟨_, hne, rfl, g', x', T', tr, ap⟩
  · rw [hl] at h0; cases h0
  · subst h0
    refine .inr ⟨rfl, fun _ => False, g, N, x, T, (o.keep k).next (by omega) (by omega), rfl, k.m, fun q h1 h2 => ⟨id, h1, fun _ => h2⟩, rfl, fun _ h => h, rfl, fun q h => .inl h, fun q _ => rfl, fun q h => h, fun f _ _ => rfl, fun q h => h.elim⟩
  · exact .inl ⟨rfl, (o.keep k).next (by omega) (by omega), k, hno⟩
  · refine .inr ⟨rfl, fun q => ¬ N q ∨ g q = 1 ∨ g q = 2 ∨ g q = 3 ∨ g q = 4, g', fun q => N q ∨ g' q ≠ 0, x', T', ⟨tr.tr, tr.dn, fun q hq => .inr hq, fun q hq => ⟨.inl (o.old q hq).1, by rw [tr.ext q (by omega)]; exact (o.old q hq).2⟩, ap.tf, ap.q, ?_, by rw [ap.room]; exact hr, ?_, fun f hf => ?_, ?_, ?_⟩, ap.pairs, tr.up, fun q h1 h2 => ⟨fun h3 => ?_, .inl h1, fun h4 => by rw [tr.ext q h4]; exact h2⟩, ap.room, ap.tabs, ap.tot, fun q h => h, tr.ext, fun q h => .inl h, ap.oth, fun q h => ?_⟩
    · have := ap.few; rw [hln] at this; exact this
    · have := ap.waits; omega
    · by_cases h1 : f = nm
      · exact .inl h1
      · by_cases h2 : under nm f
        · exact .inr h2
        · rw [ap.oth f h1 h2] at hf; exact o.fo f hf
    · refine o.up.trans' tr.up fun q hq h3 => ?_
      by_cases hq2 : q < B
      · exfalso
        obtain ⟨h4, h5⟩ := o.old q hq2
        rw [h5] at h3
        rcases h3 with h3 | h3 | h3 | h3 | h3
        · exact h3 h4
        all_goals cases h3
      · show B ≤ q
        omega
    · refine o.tab.updM tr.up fun h3 => ?_
      rw [hgb2.2] at h3
      rcases h3 with h3 | h3 | h3 | h3 | h3
      · exact h3 hgb2.1
      all_goals cases h3
    · have h3 : ¬ N q ∨ g q = 1 ∨ g q = 2 ∨ g q = 3 ∨ g q = 4 := h3
      rw [h2] at h3
      rcases h3 with h3 | h3 | h3 | h3 | h3
      · exact h3 h1
      all_goals cases h3
    · rcases h with h | h | h | h | h
      · exact .inl h
      all_goals exact .inr (by rw [h]; decide)
end
/-- a tree that was just opened on a new disk. -/
theorem one_new {h4 h7 : Heap} {d : Nat} {nm : Str} {room : Int} (hnm : nm.size ≤ 1000000) (tab : TabH h4) (k7 : Keep h4.size h4 h7) (dn : DN (fun q => q < h4.size) d (Dk.new room) h7) :
    HC Tryz.prog 11 #[.pointer (some ⟨d, 0, none⟩), .string nm] h7 fun vv h' => Keep h7.size h7 h' ∧ ∃ t g, vv = .tuple #[.pointer (some ⟨t, 0, none⟩), .int .i64 0] ∧ One h4.size h4 t d nm 0 0 h' g (Nv (fun q => q < h4.size) h7 h') (Dk.new room) T0 := by
  have hgb : gb < h4.size := by obtain ⟨a, b, hb⟩ := tab; exact at_lt hb
  have tab7 := tab.updM k7.m (S := fun _ => False) id
  have tf0 : TF nm (Dk.new room).now T0 := TF.new List.Pairwise.nil fun f _ => rfl
  have hr : (Dk.new room).room ≤ 4096 := by
    show (min (max room 0) 4096).toNat ≤ 4096
    omega
  refine (topen_spec (T := T0) dn hnm tab7 hgb tf0 (new_quiet room) (by decide) (by decide) (by decide) (by decide) (by decide) (fun f hf => by cases hf) (Nat.zero_le _) (by decide)).mono ?_
  rintro v h' ⟨k, t, g, rfl, tr, gn, _⟩
  have z7 := k7.size
  refine ⟨k, t, g, rfl, ⟨tr, dn.wide2 k, fun q hq => .inr (gn q hq), fun q hq => ⟨.inl hq, ?_⟩, tf0, new_quiet room, Few.new, hr, Nat.zero_le _, fun f hf => (by cases hf), (k7.trans (k.mono z7)).m, tab7.updM k.m (S := fun _ => False) id⟩⟩
  by_cases h0 : g q = 0
  · exact h0
  · have := (gn q h0).1; omega
theorem u0_long {x : Sp} {h : Heap} (hx : SpOk h x) (hl : long x.ws = false) : x.ln ≤ 1024 := by
  have h1 := (long_fit hl).2
  have h2 := hx.1.1
  omega
end Go.Proofs.YtkhinnchplahlaaGreatDoor
end
