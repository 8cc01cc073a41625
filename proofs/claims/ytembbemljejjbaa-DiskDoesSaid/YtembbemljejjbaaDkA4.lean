/-
  The disk's files cut. Conditions: none.
-/
import Derived.Test.YtembbemljejjbaaDkA3
import Derived.Test.YtembbemljejjbaaG5
set_option linter.unusedVariables false
set_option linter.unusedSimpArgs false
set_option maxRecDepth 100000
namespace Go.Proofs.Ytembbemljejjbaa
open Go Go.Vc Go.Proofs Go.Dk

/-- a box that holds a number. -/
def boxI (q : Nat) (n : Int) (h : Heap) : Prop := h[q]? = some (.cells (Array.mk [Value.int .i64 n]) 3 (0, 0))
theorem cut1_spec {h : Heap} {c p q r : Nat} {F : Fs} {s : Str} {k : Nat} (hs : SideAt h c p F) (hF : SrtF F) (hne : c ≠ p) (hk : k < 9223372036854775808) (hlen : (pgs F s).length < 4611686018427387904) (hx : boxS q s h) (hy : boxI r k h) :
    HC Try.prog 53 #[.agg #[.map (some c), .map (some p)], .pointer (some ⟨q, 0, none⟩), .pointer (some ⟨r, 0, none⟩)] h
      fun v h' => SideAt h' c p (put s ((pgs F s).take k) F) ∧ Upd (two c p) h h' ∧ v = .tuple #[] := by
  refine HC_of_vc (args := [.agg #[.map (some c), .map (some p)], .pointer (some ⟨q, 0, none⟩), .pointer (some ⟨r, 0, none⟩)]) (base := 8) (cuts := []) (bigs := []) hm Try.func53 ?_
  rw [vcCut1]
  have kH := keep_push h (Obj.cells (Array.mk [Value.map (some c), Value.map (some p)]) 87 (0, 0))
  have b0 := push_at h (Obj.cells (Array.mk [Value.map (some c), Value.map (some p)]) 87 (0, 0))
  refine ⟨some c, some p, reads_load_agg (cs := [Value.map (some c), Value.map (some p)]) agSide rfl (cells_all b0), s, reads_load scS (cell_cells0 (kH.at hx (at_lt hx)) rfl), (k : Int), reads_load scI (cell_cells0 (kH.at hy (at_lt hy)) rfl),
    (cutS_spec (hs.upd (kH.upd fun _ => False) (fun h => h) (fun h => h)) hF hne hk hlen).mono ?_⟩
  rintro v h4 ⟨s4, u4, rfl⟩
  exact ⟨rfl, s4, (kH.upd _).trans u4, rfl⟩
theorem pred_cut (q r : Nat) (s : Str) (n : Int) : PredC 56 (Array.mk [.pointer (some ⟨q, 0, none⟩), .pointer (some ⟨r, 0, none⟩)]) (fun w => decide (w.n = s) && decide (n ≤ (w.i : Int))) (fun h => boxS q s h ∧ boxI r n h) := by
  refine ⟨by kernel_rfl, fun h w hx => ?_⟩
  have e : (Array.mk [Value.agg (WtE.enc w).toArray] ++ Array.mk [Value.pointer (some ⟨q, 0, none⟩), Value.pointer (some ⟨r, 0, none⟩)]) = [Value.agg (WtE.enc w).toArray, Value.pointer (some ⟨q, 0, none⟩), Value.pointer (some ⟨r, 0, none⟩)].toArray := by simp
  rw [e]
  refine HC_of_vc (args := [.agg (WtE.enc w).toArray, .pointer (some ⟨q, 0, none⟩), .pointer (some ⟨r, 0, none⟩)]) (base := 17) (cuts := []) (bigs := []) hm Try.func56 ?_
  rw [vcCut2]
  have kp := keep_push h (.cells (WtE.enc w).toArray 98 (0, 0))
  have hat := push_at h (.cells (WtE.enc w).toArray 98 (0, 0))
  refine ⟨w.n, reads_load scS (cell_cells0 hat (by simp [WtE])), s, reads_load scS (cell_cells0 (kp.at hx.1 (at_lt hx.1)) rfl), (w.i : Int), fun _ => reads_load scI (cell_cells hat (by simp [WtE])), n, fun _ => reads_load scI (cell_cells0 (kp.at hx.2 (at_lt hx.2)) rfl), kp, ?_⟩
  rw [beq_dec']
theorem may_ok {x y : D} {s : Str} (h : may x s = (0, y)) : x.down = false ∧ ∃ l, mGet x.now s = some l := by
  unfold may at h
  cases hd : x.down with
  | true => simp [hd] at h
  | false =>
    cases hg : mGet x.now s with
    | none => simp [hd, hg] at h
    | some l => exact ⟨rfl, l, rfl⟩

theorem cut_spec {h : Heap} {d : Nat} {x : D} {O : Nat → Prop} {s : Str} {n : Int} (hd : DiskAt h d x O) (hwn : x.waits.length ≤ 1073741824) (hn : n < 9223372036854775808) :
    HC Try.prog 24 #[.pointer (some ⟨d, 0, none⟩), .string s, .int .i64 n] h
      fun v h' => ∃ O', DiskAt h' d (cut x s n).2 O' ∧ (∀ q, O' q → O q ∨ h.size ≤ q) ∧ Upd O h h' ∧ v = .int .i64 (cut x s n).1 := by
  refine HC_of_vc (args := [.pointer (some ⟨d, 0, none⟩), .string s, .int .i64 n]) (base := 64) (cuts := [11]) (bigs := []) hm Try.func24 ?_
  rw [vcCutD]
  have x0 : boxS h.size s ((Array.push h (Obj.cells (Array.mk [Value.string s]) 9)).push (Obj.cells (Array.mk [Value.int IntKind.i64 n]) 3)) := push2_0 _ _ _
  have y0 : boxI (h.size + 1) n ((Array.push h (Obj.cells (Array.mk [Value.string s]) 9)).push (Obj.cells (Array.mk [Value.int IntKind.i64 n]) 3)) := push2_1 _ _ _
  have k0 : Keep h.size h ((Array.push h (Obj.cells (Array.mk [Value.string s]) 9)).push (Obj.cells (Array.mk [Value.int IntKind.i64 n]) 3)) := (keep_push h _).trans (Keep.push _ _ _ (by simp))
  generalize ((Array.push h (Obj.cells (Array.mk [Value.string s]) 9)).push (Obj.cells (Array.mk [Value.int IntKind.i64 n]) 3)) = H at k0 x0 y0
  simp only [Array.size_push]
  have hO := hd.1
  have zH := k0.size
  have hdH := hd.keep k0
  refine (ready_spec hdH).mono ?_
  rintro v h1 ⟨rfl, rfl⟩
  refine ⟨_, rfl, br_intro (fun e => ?_) (fun e => ?_)⟩
  · have hdn : x.down = true := by cases hdn : x.down <;> simp [hdn] at e ⊢
    have hc : cut x s n = (8, x) := by simp [cut, may, hdn]
    rw [hc, hdn]
    exact ⟨O, hdH, fun q h => .inl h, k0.upd O, rfl⟩
  have hdn : x.down = false := by cases hdn : x.down <;> simp [hdn] at e ⊢
  refine ⟨s, reads_load scS (cell_cells0 x0 rfl), (has_spec hdH s).mono ?_⟩
  rintro v h5 ⟨rfl, rfl⟩
  have hh : has x s = (mGet x.now s).isSome := by simp [has, hdn]
  refine ⟨_, rfl, n, fun _ => reads_load scI (cell_cells0 y0 rfl), br_intro (fun e1 => ?_) (fun e1 => ?_)⟩
  · rw [hh] at e1
    have hc : cut x s n = (1, x) := by unfold cut; rw [if_pos (by rw [hdn]; simpa using e1)]
    rw [hc]
    exact ⟨O, hdH, fun q h => .inl h, k0.upd O, rfl⟩
  rw [hh] at e1
  have hnc : (!x.down && (mGet x.now s).isSome && decide (n < 0)) = false := by rw [hdn]; simpa using e1
  refine ⟨s, reads_load scS (cell_cells0 x0 rfl), does_spec (by kernel_rfl) hdH hwn (fun h' O' e he h0 hd' sub u => ?_) fun h1 c1 p1 c2 p2 A m c hm1 hp hb u1 => ?_⟩
  · have hs : cut x s n = may x s := by
      unfold cut
      rw [hnc]
      cases hm0 : may x s with
      | mk e' d1 =>
        rw [hm0] at he
        simp only at he
        simp only [Bool.false_eq_true, if_false]
        rw [if_neg (by rw [he]; exact h0)]
    refine ⟨_, rfl, br_intro (fun h1 => absurd (by simpa using h1) h0) fun _ => ⟨O', ?_, fun q h => (sub q h).imp id fun h => by omega, (k0.upd O).trans u, ?_⟩⟩
    · rw [hs]; exact hd'
    · rw [hs, he]
  obtain ⟨_, l, hg⟩ := may_ok hm1
  have hn0 : 0 ≤ n := by rw [hg] at e1; simpa using e1
  obtain ⟨k, rfl⟩ : ∃ k : Nat, n = k := ⟨n.toNat, by omega⟩
  have hs : cut x s k = (0, { act x with now := put s ((pgs x.now s).take k) x.now, safe := put s ((pgs x.safe s).take k) x.safe, waits := drop x.waits s k }) := by
    unfold cut; rw [hnc, hm1]; rfl
  have e : (Array.mk [Value.agg (Array.mk [.map (some c1), .map (some p1)])] ++ Array.mk [Value.pointer (some ⟨h.size, 0, none⟩), Value.pointer (some ⟨h.size + 1, 0, none⟩)]) = #[Value.agg #[.map (some c1), .map (some p1)], Value.pointer (some ⟨h.size, 0, none⟩), Value.pointer (some ⟨h.size + 1, 0, none⟩)] := by simp
  rw [e]
  have nd := hp.nd
  simp at nd
  have hlt : ∀ b, blks d c1 p1 c2 p2 A b → b < h.size := fun b h0 => hO b (hb b h0)
  have x1 : boxS h.size s h1 := u1.at x0 fun h0 => by have := hO _ h0; omega
  have y1 : boxI (h.size + 1) k h1 := u1.at y0 fun h0 => by have := hO _ h0; omega
  have l1 := len_now hp.ok s
  have l2 := hp.ok.fewer s
  obtain ⟨⟨t1, t2, t3, t4⟩, t5, t6, t7, t8⟩ := two_ne hp
  refine (cut1_spec (k := k) hp.now hp.ok.now (by omega) (by omega) (by omega) x1 y1).mono ?_
  rintro v h2 ⟨s2, u2, rfl⟩
  have b2 := u2.at hp.box t1
  have x2 := u2.at x1 (fun h0 => by have := hlt _ (two_blks1 _ h0); omega)
  have y2 := u2.at y1 (fun h0 => by have := hlt _ (two_blks1 _ h0); omega)
  have f2 : SideAt h2 c2 p2 x.safe := hp.safe.upd u2 t2 t3
  have sS : SrtF x.safe := hp.ok.safe
  refine ⟨rfl, _, rfl, br_intro (fun _ => ?_) (fun e => by cases e)⟩
  refine ⟨fun h22 => ∃ G, SrtF G ∧ SideAt h22 c2 p2 G ∧ put s ((pgs G s).take k) G = put s ((pgs x.safe s).take k) x.safe ∧ (pgs G s).length ≤ 4096 ∧ Upd (two c2 p2) h2 h22, ?_, ?_⟩
  · obtain ⟨mc, mp, hc, hmp, hl⟩ := f2
    refine ⟨_, rfl, some c2, reads_load scMc (cell_cells b2 (by simp [diskC])), s, reads_load scS (cell_cells0 x2 rfl), _, _, reads_count2 hc hl s, br_intro (fun hb1 => ?_) (fun hb1 => ?_)⟩
    · have hnone : mGet x.safe s = none := by simpa using hb1
      refine ⟨_, rfl, some c2, reads_load scMc (cell_cells b2 (by simp [diskC])), s, reads_load scS (cell_cells0 x2 rfl), svc_mapUpdate (M := Mc) (k := s) (v := 0) hc fun h22 s22 u22 m22 => ?_⟩
      have e0 : pgs x.safe s = [] := by simp [pgs, hnone]
      refine ⟨put s [] x.safe, srt_put sS _ _, ⟨_, _, m22, hmp.upd u22 (by omega), hl.add sS s hnone⟩, ?_, ?_, u22.mono fun b e => .inl e⟩
      · rw [Dk.pgs_put sS, if_pos rfl, put_put sS, e0]
      · rw [Dk.pgs_put sS, if_pos rfl]; simp
    · exact ⟨x.safe, sS, ⟨mc, mp, hc, hmp, hl⟩, rfl, by have : (pgs x.safe s).length ≤ (pgs x.now s).length := l2; have : (pgs x.now s).length ≤ 4096 := l1; omega, Upd.refl _ _⟩
  rintro h23 ⟨G, hG, s23, eG, lG, u23⟩
  have b23 := u23.at b2 t5
  have x23 := u23.at x2 (fun h0 => by have := hlt _ (two_blks2 _ h0); omega)
  have y23 := u23.at y2 (fun h0 => by have := hlt _ (two_blks2 _ h0); omega)
  refine ⟨_, rfl, _, _, box_side2 b23, s, reads_load scS (cell_cells0 x23 rfl), (k : Int), reads_load scI (cell_cells0 y23 rfl), (cutS_spec s23 hG (by omega) (by omega) (by omega)).mono ?_⟩
  rintro v h8 ⟨s8, u8, rfl⟩
  rw [eG] at s8
  have u28 := u23.trans u8
  have b8 := u8.at b23 t5
  have x8 := u8.at x23 (fun h0 => by have := hlt _ (two_blks2 _ h0); omega)
  have y8 := u8.at y23 (fun h0 => by have := hlt _ (two_blks2 _ h0); omega)
  have w8 := (hp.waits.upd u2 t4).upd u28 t8
  have nw := fun q hq => hp.ne_waits (b := q) hq
  have nm := hp.ne_map
  refine ⟨rfl, _, rfl, A, m, c, reads_load scWs (cell_cells b8 (by simp [diskC])), (delF_spec (X := fun h' => boxS h.size s h' ∧ boxI (h.size + 1) k h') (pred_cut h.size (h.size + 1) s k) (fun a b ha k => ⟨k.at ha.1 (at_lt ha.1), k.at ha.2 (at_lt ha.2)⟩)
    (fun a b ha u => ⟨u.at ha.1 fun hq => by have := hlt h.size (.inr (.inr (.inr (.inr (.inr hq))))); omega, u.at ha.2 fun hq => by have := hlt (h.size + 1) (.inr (.inr (.inr (.inr (.inr hq))))); omega⟩) w8 ⟨x8, y8⟩ (by have := hp.waits.1; have : x.waits.length = m := this; omega)).mono ?_⟩
  rintro v h14 ⟨o14, u14, rfl⟩
  have b14 := u14.at b8 fun h0 => (nw _ h0).1 rfl
  refine ⟨_, _, _, rfl, _, rfl, svc_store_box szWs b14 (by simp [diskC]) rfl (one_slice _ _ _) fun h20 s20 b20 u20 => ?_⟩
  have ub : Upd (blks d c1 p1 c2 p2 A) h1 h20 := (u2.mono two_blks1).trans ((u28.mono two_blks2).trans ((u14.mono fun q h => .inr (.inr (.inr (.inr (.inr h))))).trans (u20.mono fun q e => .inl e)))
  have uall : Upd O h h20 := (k0.upd O).trans (u1.trans (ub.mono hb))
  rw [hs]
  refine ⟨O, ⟨fun q h0 => Nat.lt_of_lt_of_le (hO q h0) uall.size, c1, p1, c2, p2, A, (x.waits.filter fun w => !(decide (w.n = s) && decide ((k : Int) ≤ (w.i : Int)))).length, c, ⟨?_, ?_, ?_, ?_, hp.nd, ok_cut hp.ok s k⟩, hb⟩, fun q h => .inl h, uall, rfl⟩
  · rw [b20]; simp [diskC, act]
  · exact ((s2.upd u28 t6 t7).upd u14 (fun h => (nw _ h).2.1 rfl) (fun h => (nw _ h).2.2.1 rfl)).upd u20 (Ne.symm nm.1) (Ne.symm nm.2.1)
  · exact (s8.upd u14 (fun h => (nw _ h).2.2.2.1 rfl) (fun h => (nw _ h).2.2.2.2 rfl)).upd u20 (Ne.symm nm.2.2.1) (Ne.symm nm.2.2.2)
  · exact o14.upd u20 fun q hq => (nw _ hq).1
end Go.Proofs.Ytembbemljejjbaa
