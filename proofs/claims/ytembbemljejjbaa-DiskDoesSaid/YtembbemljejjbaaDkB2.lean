/-
  The disk's files renamed. Conditions: none.
-/
import Derived.Test.YtembbemljejjbaaDkB1
import Derived.Test.YtembbemljejjbaaG6
set_option linter.unusedVariables false
set_option linter.unusedSimpArgs false
set_option maxRecDepth 100000
namespace Go.Proofs.Ytembbemljejjbaa
open Go Go.Vc Go.Proofs Go.Dk

theorem ren1_spec (h : Heap) (c p : Nat) : HC Try.prog 59 (Array.mk [.agg (Array.mk [.map (some c), .map (some p)])] ++ Array.mk []) h fun v h' => Keep h.size h h' ∧ v = .tuple #[] := by
  have e : (Array.mk [Value.agg (Array.mk [.map (some c), .map (some p)])] ++ Array.mk []) = [Value.agg (Array.mk [.map (some c), .map (some p)])].toArray := by simp
  rw [e]
  refine HC_of_vc (args := [.agg (Array.mk [.map (some c), .map (some p)])]) (base := 2) (cuts := []) (bigs := []) hm Try.func59 ?_
  rw [vcRename1]
  exact ⟨keep_push _ _, rfl⟩
theorem ren2_spec {h : Heap} {c p q r : Nat} {F : Fs} {a b : Str} (hs : SideAt h c p F) (hF : SrtF F) (hne : c ≠ p) (hab : a ≠ b) (hla : (pgs F a).length < 4611686018427387904) (hlb : (pgs F b).length < 4611686018427387904) (hx : boxS q a h) (hy : boxS r b h) :
    HC Try.prog 60 #[.agg #[.map (some c), .map (some p)], .pointer (some ⟨q, 0, none⟩), .pointer (some ⟨r, 0, none⟩)] h
      fun v h' => SideAt h' c p (moved a b F) ∧ Upd (two c p) h h' ∧ v = .tuple #[] := by
  refine HC_of_vc (args := [.agg #[.map (some c), .map (some p)], .pointer (some ⟨q, 0, none⟩), .pointer (some ⟨r, 0, none⟩)]) (base := 8) (cuts := []) (bigs := []) hm Try.func60 ?_
  rw [vcRename2]
  have kH := keep_push h (Obj.cells (Array.mk [Value.map (some c), Value.map (some p)]) 87 (0, 0))
  have b0 := push_at h (Obj.cells (Array.mk [Value.map (some c), Value.map (some p)]) 87 (0, 0))
  refine ⟨some c, some p, reads_load_agg (cs := [Value.map (some c), Value.map (some p)]) agSide rfl (cells_all b0), a, reads_load scS (cell_cells0 (kH.at hx (at_lt hx)) rfl), b, reads_load scS (cell_cells0 (kH.at hy (at_lt hy)) rfl),
    (move_spec (hs.upd (kH.upd fun _ => False) (fun h => h) (fun h => h)) hF hne hab hla hlb).mono ?_⟩
  rintro v h4 ⟨s4, u4, rfl⟩
  exact ⟨rfl, s4, (kH.upd _).trans u4, rfl⟩
theorem pred_rename (q : Nat) (s : Str) : PredC 62 (Array.mk [.pointer (some ⟨q, 0, none⟩)]) (fun w => decide (w.n = s)) (boxS q s) := by
  refine ⟨by kernel_rfl, fun h w hx => ?_⟩
  have e : (Array.mk [Value.agg (WtE.enc w).toArray] ++ Array.mk [Value.pointer (some ⟨q, 0, none⟩)]) = [Value.agg (WtE.enc w).toArray, Value.pointer (some ⟨q, 0, none⟩)].toArray := by simp
  rw [e]
  refine HC_of_vc (args := [.agg (WtE.enc w).toArray, .pointer (some ⟨q, 0, none⟩)]) (base := 9) (cuts := []) (bigs := []) hm Try.func62 ?_
  rw [vcRename3]
  have kp := keep_push h (.cells (WtE.enc w).toArray 98 (0, 0))
  refine ⟨w.n, reads_load scS (cell_cells0 (push_at h (.cells (WtE.enc w).toArray 98 (0, 0))) (by simp [WtE])), s, reads_load scS (cell_cells0 (kp.at hx (at_lt hx)) rfl), kp, ?_⟩
  rw [beq_dec']

/-- a list whose first part has turned. -/
def upto (f : Wt → Wt) (k : Nat) (ws : List Wt) : List Wt := (ws.take k).map f ++ ws.drop k
theorem upto_len (f : Wt → Wt) (k : Nat) (ws : List Wt) : (upto f k ws).length = ws.length := by simp [upto]; omega
theorem upto_get {f : Wt → Wt} {k : Nat} {ws : List Wt} {w : Wt} (hw : ws[k]? = some w) : (upto f k ws)[k]? = some w := by
  have hk := (List.getElem?_eq_some_iff.1 hw).1
  unfold upto
  rw [List.getElem?_append_right (by simp; omega), List.length_map, List.length_take]
  simp
  rw [show k + (k - min k ws.length) = k by omega]; exact hw
theorem upto_succ {f : Wt → Wt} {k : Nat} {ws : List Wt} {w : Wt} (hw : ws[k]? = some w) : upto f (k + 1) ws = (upto f k ws).set k (f w) := by
  obtain ⟨hk, he⟩ := List.getElem?_eq_some_iff.1 hw
  have hl : ((ws.take k).map f).length = k := by simp; omega
  unfold upto
  rw [List.take_succ_eq_append_getElem hk, he, List.map_append, List.set_append_right _ _ (by omega), hl, Nat.sub_self]
  have hd : ws.drop k = w :: ws.drop (k + 1) := by rw [List.drop_eq_getElem_cons hk, he]
  rw [hd]
  simp only [List.map_cons, List.map_nil, List.append_assoc, List.singleton_append, List.set_cons_zero]
theorem set_wt (R : List Wt) (rest : List Value) (k : Nat) (w : Wt) (t : Str) (hw : R[k]? = some w) : (R.flatMap WtE.enc ++ rest).set (k * 514) (.string t) = (R.set k { w with n := t }).flatMap WtE.enc ++ rest := by
  obtain ⟨hk, he⟩ := List.getElem?_eq_some_iff.1 hw
  have h1 : R = R.take k ++ R[k] :: R.drop (k + 1) := by simp
  have h2 : R.set k { w with n := t } = R.take k ++ { w with n := t } :: R.drop (k + 1) := by rw [List.set_eq_take_append_cons_drop, if_pos hk]
  have hl : ((R.take k).flatMap WtE.enc).length = k * 514 := by rw [flat_len, List.length_take]; show min k R.length * 514 = _; congr 1; omega
  have e0 : R.flatMap WtE.enc = (R.take k).flatMap WtE.enc ++ (WtE.enc w ++ (R.drop (k + 1)).flatMap WtE.enc) := by
    have := congrArg (List.flatMap WtE.enc) h1
    rw [List.flatMap_append, List.flatMap_cons, he] at this
    exact this
  rw [e0, h2, List.append_assoc, List.set_append_right _ _ (by omega), hl, Nat.sub_self, List.flatMap_append, List.flatMap_cons, List.append_assoc, List.append_assoc]
  rfl

set_option maxHeartbeats 1000000 in
theorem rename_spec {h : Heap} {d : Nat} {x : D} {O : Nat → Prop} {s t : Str} (hd : DiskAt h d x O) (hwn : x.waits.length ≤ 1073741824) :
    HC Try.prog 26 #[.pointer (some ⟨d, 0, none⟩), .string s, .string t] h
      fun v h' => ∃ O', DiskAt h' d (rename x s t).2 O' ∧ (∀ q, O' q → O q ∨ h.size ≤ q) ∧ Upd O h h' ∧ v = .int .i64 (rename x s t).1 := by
  refine HC_of_vc (args := [.pointer (some ⟨d, 0, none⟩), .string s, .string t]) (base := 77) (cuts := [3]) (bigs := []) hm Try.func26 ?_
  rw [vcRenameD]
  have x0 : boxS h.size s ((Array.push h (Obj.cells (Array.mk [Value.string s]) 9)).push (Obj.cells (Array.mk [Value.string t]) 9)) := push2_0 _ _ _
  have y0 : boxS (h.size + 1) t ((Array.push h (Obj.cells (Array.mk [Value.string s]) 9)).push (Obj.cells (Array.mk [Value.string t]) 9)) := push2_1 _ _ _
  have k0 : Keep h.size h ((Array.push h (Obj.cells (Array.mk [Value.string s]) 9)).push (Obj.cells (Array.mk [Value.string t]) 9)) := (keep_push h _).trans (Keep.push _ _ _ (by simp))
  generalize ((Array.push h (Obj.cells (Array.mk [Value.string s]) 9)).push (Obj.cells (Array.mk [Value.string t]) 9)) = H at k0 x0 y0
  simp only [Array.size_push]
  have hO := hd.1
  have zH := k0.size
  have hdH := hd.keep k0
  have badE : ∀ {e : Int}, (may x s).1 = e → e ≠ 0 → rename x s t = may x s := fun {e} he h0 => by
    unfold rename
    cases hm0 : may x s with
    | mk e' d1 =>
      rw [hm0] at he
      simp only at he ⊢
      rw [if_neg (fun h => h0 (by rw [← he]; exact h.1))]
  refine ⟨fun _ h' => h' = H ∧ (x.down = true ∨ s ≠ t ∨ has x s = false), ?_, ?_⟩
  · refine (ready_spec hdH).mono ?_
    rintro v h1 ⟨rfl, rfl⟩
    refine ⟨_, rfl, s, fun _ => reads_load scS (cell_cells0 x0 rfl), t, fun _ => reads_load scS (cell_cells0 y0 rfl), s, fun _ => reads_load scS (cell_cells0 x0 rfl), br_intro (fun e => ?_) (fun e => ⟨rfl, ?_⟩)⟩
    · have hdn : x.down = false := by cases hdn : x.down <;> simp [hdn] at e ⊢
      have hst : s = t := by
        rw [hdn] at e
        have e : (s.toList == t.toList) = true := by simpa using e
        exact eq_beq.1 e
      refine (has_spec hdH s).mono ?_
      rintro v h8 ⟨rfl, rfl⟩
      refine ⟨_, rfl, br_intro (fun hh => ?_) (fun hh => ⟨rfl, .inr (.inr hh)⟩)⟩
      refine ⟨s, reads_load scS (cell_cells0 x0 rfl), does_spec (by kernel_rfl) hdH hwn (fun h' O' e he h0 hd' sub u => ?_) fun h1 c1 p1 c2 p2 A m c hm1 hp hb u1 => (ren1_spec h1 c1 p1).mono ?_⟩
      · refine ⟨_, rfl, O', ?_, fun q h => (sub q h).imp id fun h => by omega, (k0.upd O).trans u, ?_⟩
        · rw [badE he h0]; exact hd'
        · rw [badE he h0, he]
      · rintro v h2 ⟨k2, rfl⟩
        have hr : rename x s t = (0, act x) := by unfold rename; rw [hm1]; simp only; rw [if_neg (fun h => h.2 hst)]
        have hO2 : ∀ b, O b → b < h2.size := fun b h0 => Nat.lt_of_lt_of_le (Nat.lt_of_lt_of_le (hdH.1 b h0) u1.size) k2.size
        rw [hr]
        exact ⟨rfl, _, rfl, O, (hp.upd (k2.upd fun _ => False) fun _ _ h => h).at hb hO2, fun q h => .inl h, (k0.upd O).trans (u1.trans (k2.upd O)), rfl⟩
    · cases hdn : x.down with
      | true => exact .inl rfl
      | false =>
        rw [hdn] at e
        have e : (s.toList == t.toList) = false := by simpa using e
        exact .inr (.inl fun h => by rw [eq_beq.2 h] at e; cases e)
  rintro _ h15 ⟨rfl, hcond⟩
  refine ⟨s, reads_load scS (cell_cells0 x0 rfl), does_spec (by kernel_rfl) hdH hwn (fun h' O' e he h0 hd' sub u => ?_) fun h1 c1 p1 c2 p2 A m c hm1 hp hb u1 => ?_⟩
  · refine ⟨_, rfl, br_intro (fun h1 => absurd (by simpa using h1) h0) fun _ => ⟨O', ?_, fun q h => (sub q h).imp id fun h => by omega, (k0.upd O).trans u, ?_⟩⟩
    · rw [badE he h0]; exact hd'
    · rw [badE he h0, he]
  obtain ⟨hdn, l, hg⟩ := may_ok hm1
  have hst : s ≠ t := by
    rcases hcond with h | h | h
    · rw [hdn] at h; cases h
    · exact h
    · simp [has, hdn, hg] at h
  have hr : rename x s t = (0, { act x with now := moved s t x.now, safe := moved s t x.safe, waits := (drop x.waits t 0).map (turnW s t) }) := by
    unfold rename; rw [hm1]; simp only; rw [if_pos ⟨trivial, hst⟩]; rfl
  have e : (Array.mk [Value.agg (Array.mk [.map (some c1), .map (some p1)])] ++ Array.mk [Value.pointer (some ⟨h.size, 0, none⟩), Value.pointer (some ⟨h.size + 1, 0, none⟩)]) = #[Value.agg #[.map (some c1), .map (some p1)], Value.pointer (some ⟨h.size, 0, none⟩), Value.pointer (some ⟨h.size + 1, 0, none⟩)] := by simp
  rw [e]
  have nd := hp.nd
  simp at nd
  have hlt : ∀ b, blks d c1 p1 c2 p2 A b → b < h.size := fun b h0 => hO b (hb b h0)
  have x1 : boxS h.size s h1 := u1.at x0 fun h0 => by have := hO _ h0; omega
  have y1 : boxS (h.size + 1) t h1 := u1.at y0 fun h0 => by have := hO _ h0; omega
  have l1 := len_now hp.ok s
  have l2 := len_now hp.ok t
  have l3 := hp.ok.fewer s
  have l4 := hp.ok.fewer t
  obtain ⟨⟨t1, t2, t3, t4⟩, t5, t6, t7, t8⟩ := two_ne hp
  refine (ren2_spec hp.now hp.ok.now (by omega) hst (by omega) (by omega) x1 y1).mono ?_
  rintro v h2 ⟨s2, u2, rfl⟩
  have b2 := u2.at hp.box t1
  have x2 := u2.at x1 (fun h0 => by have := hlt _ (two_blks1 _ h0); omega)
  have y2 := u2.at y1 (fun h0 => by have := hlt _ (two_blks1 _ h0); omega)
  have f2 : SideAt h2 c2 p2 x.safe := hp.safe.upd u2 t2 t3
  have w2 := hp.waits.upd u2 t4
  have nw := fun q hq => hp.ne_waits (b := q) hq
  have nm := hp.ne_map
  refine ⟨rfl, _, rfl, br_intro (fun _ => ?_) (fun e => by cases e)⟩
  refine ⟨_, rfl, A, m, c, reads_load scWs (cell_cells b2 (by simp [diskC])), (delF_spec (X := boxS (h.size + 1) t) (pred_rename (h.size + 1) t) (fun a b ha k => k.at ha (at_lt ha))
    (fun a b ha u => u.at ha fun hq => by have := hlt (h.size + 1) (.inr (.inr (.inr (.inr (.inr hq))))); omega) w2 y2 (by have := hp.waits.1; have : x.waits.length = m := this; omega)).mono ?_⟩
  rintro v h25 ⟨o25, u25, rfl⟩
  have b25 := u25.at b2 fun h0 => (nw _ h0).1 rfl
  have x25 := u25.at x2 fun hq => by have := hlt h.size (.inr (.inr (.inr (.inr (.inr hq))))); omega
  have y25 := u25.at y2 fun hq => by have := hlt (h.size + 1) (.inr (.inr (.inr (.inr (.inr hq))))); omega
  generalize hws : (x.waits.filter fun w => !decide (w.n = t)) = ws at o25
  have hws2 : (List.filter (fun w => !decide (w.n = t)) (act x).waits) = ws := hws
  rw [hws2] at o25
  rw [hws2]
  have hdw : drop x.waits t 0 = ws := by rw [drop0]; exact hws
  have hlw : ws.length ≤ 1073741824 := by
    rw [← hdw]; exact Nat.le_trans (List.length_filter_le _ _) hwn
  refine ⟨_, _, _, rfl, _, rfl, svc_store_box szWs b25 (by simp [diskC]) rfl (one_slice _ _ _) fun h31 s31 b31 u31 => ?_⟩
  have nd31 : ∀ q, q ≠ d → ¬ q = d := fun q h => h
  have x31 := u31.at x25 (fun e => by have := hlt d (.inl rfl); omega)
  have y31 := u31.at y25 (fun e => by have := hlt d (.inl rfl); omega)
  have o31 := o25.upd u31 fun q hq => (nw _ hq).1
  refine ⟨_, rfl, A, ws.length, c, reads_load scWs (cell_cells b31 (by simp [diskC])), ?_⟩
  refine ⟨fun n38 h39 => ∃ k : Nat, n38 = k ∧ k ≤ ws.length ∧ Own WtE 98 0 h39 A ws.length c (upto (turnW s t) k ws) ∧ Upd (blk A) h31 h39, fun n38 _ => ws.length - n38.toNat,
    ⟨0, rfl, Nat.zero_le _, by simpa [upto] using o31, Upd.refl _ _⟩, ?_⟩
  rintro n38 h39 ⟨k, rfl, hk, o39, u39⟩
  have b39 := u39.at b31 fun h0 => (nw _ h0).1 rfl
  have x39 := u39.at x31 fun hq => by have := hlt h.size (.inr (.inr (.inr (.inr (.inr hq))))); omega
  have y39 := u39.at y31 fun hq => by have := hlt (h.size + 1) (.inr (.inr (.inr (.inr (.inr hq))))); omega
  refine br_intro (fun hlt2 => ?_) (fun hge => ?_)
  · have hlt2 : k < ws.length := by have : (k : Int) < ws.length := by simpa using hlt2
                                    omega
    have hw : ws[k]? = some ws[k] := List.getElem?_eq_getElem hlt2
    generalize ws[k] = w at hw
    have hR := upto_get (f := turnW s t) hw
    have hwk : IntKind.i64.wrap ((k : Int) + 1) = ((k + 1 : Nat) : Int) := by rw [wrap_i64 (by omega) (by omega)]; rfl
    obtain ⟨bb, cells, rfl, _, hbb, hcs, rest, hrest⟩ : ∃ bb cells, A = some ⟨bb, 0, none⟩ ∧ 0 ≤ bb ∧ h39[bb]? = some (.cells cells 98 (0, 0)) ∧ cells.size = c * WtE.sz ∧ ∃ rest, cells.toList = (upto (turnW s t) k ws).flatMap WtE.enc ++ rest := by
      rcases o39.2.2 with ⟨_, e⟩ | h0
      · have := o39.2.1; omega
      · exact h0
    have hcell : cells[k * 514]? = some (.string w.n) := by
      have this := flat_get (E := WtE) (upto (turnW s t) k ws) (j := 0) (v := .string w.n) hR (by simp [WtE])
      have ek : k * WtE.sz + 0 = k * 514 := Nat.add_zero _
      rw [ek] at this
      rw [← Array.getElem?_toList, hrest, List.getElem?_append_left (List.getElem?_eq_some_iff.1 this).1]
      exact this
    have hlc : k * 514 < cells.size := (Array.getElem?_eq_some_iff.1 hcell).1
    refine ⟨_, rfl, some ⟨bb, 0, none⟩, ws.length, c, reads_load scWs (cell_cells b39 (by simp [diskC])), ⟨bb, 0, none⟩, ⟨rfl, by omega, by omega⟩, w.n, ?_, s, reads_load scS (cell_cells0 x39 rfl), br_intro (fun he => ?_) (fun he => ?_)⟩
    · rw [Int.toNat_natCast]; exact reads_load scS (cell_cells hbb hcell)
    · have he : w.n = s := eq_beq.1 he
      refine ⟨_, rfl, some ⟨bb, 0, none⟩, ws.length, c, reads_load scWs (cell_cells b39 (by simp [diskC])), t, reads_load scS (cell_cells0 y39 rfl), ⟨bb, 0, none⟩, ⟨rfl, by omega, by omega⟩, ?_⟩
      rw [Int.toNat_natCast]
      refine svc_store_box (by kernel_rfl) hbb hlc rfl (one_string _) fun h54 s54 b54 u54 => ?_
      rw [hwk]
      have ht : turnW s t w = { w with n := t } := by unfold turnW; rw [if_pos he]
      have hs2 : cells.toList.set (k * 514) (.string t) = (upto (turnW s t) (k + 1) ws).flatMap WtE.enc ++ rest := by
        rw [hrest, set_wt _ _ _ _ _ hR, upto_succ hw, ht]
      have b54' : h54[bb]? = some (.cells ((upto (turnW s t) (k + 1) ws).flatMap WtE.enc ++ rest).toArray 98 (0, 0)) := by rw [← hs2]; exact b54
      refine ⟨⟨k + 1, rfl, hlt2, ⟨upto_len _ _ _, o39.2.1, .inr ⟨bb, _, rfl, Nat.zero_le _, b54', ?_, rest, by simp⟩⟩, u39.trans (u54.mono fun q e => ⟨_, rfl, e.symm⟩)⟩, by dsimp only; omega⟩
      have := congrArg List.length hs2
      rw [List.length_set, Array.length_toList] at this
      simp only [List.size_toArray]; omega
    · have he : w.n ≠ s := fun h => by rw [eq_beq.2 h] at he; cases he
      rw [hwk]
      have ht : turnW s t w = w := by unfold turnW; rw [if_neg he]
      refine ⟨⟨k + 1, rfl, hlt2, ?_, u39⟩, by dsimp only; omega⟩
      have : upto (turnW s t) (k + 1) ws = upto (turnW s t) k ws := by
        rw [upto_succ hw, ht]
        apply List.ext_getElem?
        intro j
        rw [List.getElem?_set]
        split
        · rename_i e; subst e; split
          · exact hR.symm
          · rename_i h0; exact absurd (List.getElem?_eq_some_iff.1 hR).1 h0
        · rfl
      rw [this]; exact o39
  · have hk' : k = ws.length := by have : ¬ (k : Int) < ws.length := by simpa using hge
                                   omega
    have hall : upto (turnW s t) k ws = ws.map (turnW s t) := by unfold upto; rw [hk', List.take_length, List.drop_length, List.append_nil]
    rw [hall] at o39
    have ub : Upd (fun q => q = d ∨ blk A q) h2 h39 := (u25.mono fun q h => .inr h).trans ((u31.mono fun q e => .inl e).trans (u39.mono fun q h => .inr h))
    have f39 : SideAt h39 c2 p2 x.safe := f2.upd ub (fun h => h.elim (fun e => nm.2.2.1 e.symm) fun h => (nw _ h).2.2.2.1 rfl) (fun h => h.elim (fun e => nm.2.2.2 e.symm) fun h => (nw _ h).2.2.2.2 rfl)
    have n39 : SideAt h39 c1 p1 (moved s t x.now) := s2.upd ub (fun h => h.elim (fun e => nm.1 e.symm) fun h => (nw _ h).2.1 rfl) (fun h => h.elim (fun e => nm.2.1 e.symm) fun h => (nw _ h).2.2.1 rfl)
    have b39' : h39[d]? = some (.cells (diskC c1 p1 c2 p2 A ws.length c (act x)).toArray 91 (0, 0)) := by rw [b39]; simp [diskC]
    refine ⟨_, rfl, _, _, box_side2 b39', s, reads_load scS (cell_cells0 x39 rfl), t, reads_load scS (cell_cells0 y39 rfl), (move_spec f39 hp.ok.safe (by omega) hst (by have : (pgs x.safe s).length ≤ (pgs x.now s).length := l3; have : (pgs x.now s).length ≤ 4096 := l1; omega) (by have : (pgs x.safe t).length ≤ (pgs x.now t).length := l4; have : (pgs x.now t).length ≤ 4096 := l2; omega)).mono ?_⟩
    rintro v h61 ⟨s61, u61, rfl⟩
    have uall : Upd O h h61 := (k0.upd O).trans (u1.trans (((u2.mono two_blks1).trans ((ub.mono fun q h => h.elim (fun e => Or.inl e) fun h => .inr (.inr (.inr (.inr (.inr h))))).trans (u61.mono two_blks2))).mono hb))
    rw [hr]
    refine ⟨rfl, O, ⟨fun q h0 => Nat.lt_of_lt_of_le (hO q h0) uall.size, c1, p1, c2, p2, A, ws.length, c, ⟨?_, n39.upd u61 t6 t7, s61, ?_, hp.nd, ok_rename (ok_act (by exact hd.ok)) hst⟩, hb⟩, fun q h => .inl h, uall, rfl⟩
    · rw [u61.at b39' t5]; simp [diskC, act]
    · show Own _ _ _ _ _ _ _ ((drop x.waits t 0).map (turnW s t))
      rw [hdw]
      exact o39.upd u61 t8
end Go.Proofs.Ytembbemljejjbaa
