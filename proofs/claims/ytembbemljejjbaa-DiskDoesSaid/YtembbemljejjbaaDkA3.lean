/-
  The disk's files removed. Conditions: none.
-/
import Derived.Test.YtembbemljejjbaaDkA2
import Derived.Test.YtembbemljejjbaaDkC0
set_option linter.unusedVariables false
set_option linter.unusedSimpArgs false
set_option maxRecDepth 100000
namespace Go.Proofs.Ytembbemljejjbaa
open Go Go.Vc Go.Proofs Go.Dk

theorem Like.del {F : Fs} {mc : List (Str × Int)} {mp : List ((Str × Int) × Str)} (hl : Like F mc mp) (hn : (mKeys mc).Nodup) (s : Str) (he : pgs F s = []) : Like (del s F) (mDel mc s) mp := by
  have hp : ∀ m, pgs (Dk.del s F) m = pgs F m := fun m => by
    rw [Dk.pgs_del]; split
    · rename_i e; subst e; exact he.symm
    · rfl
  refine ⟨fun m => ?_, fun m i => ?_, fun m i hi => ?_⟩
  · rw [mGet_del hn, get_del]
    by_cases e : s = m
    · subst e; simp
    · rw [if_neg e, if_neg (Ne.symm e)]; exact hl.count m
  · have := hl.page m i; unfold pg at this ⊢; rw [hp]; exact this
  · rw [hp]; exact hl.there m i hi

theorem rem1_spec {h : Heap} {c p q : Nat} {F : Fs} {s : Str} (hs : SideAt h c p F) (hF : SrtF F) (hne : c ≠ p) (hlen : (pgs F s).length < 4611686018427387904) (hx : boxS q s h) (hq : q ≠ c ∧ q ≠ p) :
    HC Try.prog 57 #[.agg #[.map (some c), .map (some p)], .pointer (some ⟨q, 0, none⟩)] h
      fun v h' => SideAt h' c p (del s F) ∧ Upd (two c p) h h' ∧ v = .tuple #[] := by
  refine HC_of_vc (args := [.agg #[.map (some c), .map (some p)], .pointer (some ⟨q, 0, none⟩)]) (base := 9) (cuts := []) (bigs := []) hm Try.func57 ?_
  rw [vcRemove1]
  have kH := keep_push h (Obj.cells (Array.mk [Value.map (some c), Value.map (some p)]) 87 (0, 0))
  have b0 := push_at h (Obj.cells (Array.mk [Value.map (some c), Value.map (some p)]) 87 (0, 0))
  have hl := hs.lt
  have hs1 := hs.upd (kH.upd fun _ => False) (fun h => h) (fun h => h)
  have x1 := kH.at hx (at_lt hx)
  refine ⟨some c, some p, reads_load_agg (cs := [Value.map (some c), Value.map (some p)]) agSide rfl (cells_all b0), s, reads_load scS (cell_cells0 x1 rfl), (cutS_spec (k := 0) hs1 hF hne (by omega) hlen).mono ?_⟩
  rintro v h4 ⟨s4, u4, rfl⟩
  rw [List.take_zero] at s4
  have b4 := u4.at b0 (by rintro (e | e) <;> omega)
  have x4 := u4.at x1 (by rintro (e | e) <;> omega)
  obtain ⟨mc, mp, hc, hp, hl4⟩ := s4
  have hnd : (mKeys mc).Nodup := by obtain ⟨_, _, _, _, h0, _⟩ := hc; exact h0
  refine ⟨rfl, some c, reads_load scMc (cell_cells0 b4 rfl), s, reads_load scS (cell_cells0 x4 rfl), svc_delete (M := Mc) (k := s) hc fun h8 s8 u8 m8 => ⟨rfl, ⟨_, _, m8, hp.upd u8 (Ne.symm hne), ?_⟩, (kH.upd _).trans (u4.trans (u8.mono fun b e => .inl e)), by first | rfl | trivial⟩⟩
  have := hl4.del hnd s (by rw [Dk.pgs_put hF, if_pos rfl])
  rw [del_put hF] at this
  exact this

theorem box_side2 {h : Heap} {d c1 p1 c2 p2 : Nat} {A : Option Addr} {n c : Nat} {x : D} (hb : h[d]? = some (.cells (diskC c1 p1 c2 p2 A n c x).toArray 91 (0, 0))) :
    Reads Try.prog (Instr.loadAt 87 (.pointer (some ((⟨d, 0, none⟩ : Addr).add 2)))) h (.agg (Array.mk [.map (some c2), .map (some p2)])) :=
  reads_load_agg (cs := [.map (some c2), .map (some p2)]) agSide rfl (cells_part hb fun j v hj => by
    match j, hj with
    | 0, hj => simpa [diskC] using hj
    | 1, hj => simpa [diskC] using hj
    | j + 2, hj => simp at hj)

theorem pred_remove (q : Nat) (s : Str) : PredC 58 (Array.mk [.pointer (some ⟨q, 0, none⟩)]) (fun w => decide (w.n = s)) (boxS q s) := by
  refine ⟨by kernel_rfl, fun h w hx => ?_⟩
  have e : (Array.mk [Value.agg (WtE.enc w).toArray] ++ Array.mk [Value.pointer (some ⟨q, 0, none⟩)]) = [Value.agg (WtE.enc w).toArray, Value.pointer (some ⟨q, 0, none⟩)].toArray := by simp
  rw [e]
  refine HC_of_vc (args := [.agg (WtE.enc w).toArray, .pointer (some ⟨q, 0, none⟩)]) (base := 9) (cuts := []) (bigs := []) hm Try.func58 ?_
  rw [vcRemove2]
  have kp := keep_push h (.cells (WtE.enc w).toArray 98 (0, 0))
  refine ⟨w.n, reads_load scS (cell_cells0 (push_at h (.cells (WtE.enc w).toArray 98 (0, 0))) (by simp [WtE])), s, reads_load scS (cell_cells0 (kp.at hx (at_lt hx)) rfl), kp, ?_⟩
  rw [beq_dec']

theorem two_ne {d c1 p1 c2 p2 : Nat} {A : Option Addr} {h : Heap} {n c : Nat} {x : D} (hp : DiskP h d c1 p1 c2 p2 A n c x) :
    (¬ two c1 p1 d ∧ ¬ two c1 p1 c2 ∧ ¬ two c1 p1 p2 ∧ ∀ b, blk A b → ¬ two c1 p1 b) ∧ (¬ two c2 p2 d ∧ ¬ two c2 p2 c1 ∧ ¬ two c2 p2 p1 ∧ ∀ b, blk A b → ¬ two c2 p2 b) := by
  obtain ⟨q1, q2, q3, q4⟩ := hp.ne_map
  have nd := hp.nd
  simp at nd
  have nw := fun b hb => hp.ne_waits (b := b) hb
  refine ⟨⟨?_, ?_, ?_, fun b hb => ?_⟩, ?_, ?_, ?_, fun b hb => ?_⟩
  all_goals first
    | (have := nw b hb; rintro (e | e) <;> omega)
    | (rintro (e | e) <;> omega)

theorem remove_spec {h : Heap} {d : Nat} {x : D} {O : Nat → Prop} {s : Str} (hd : DiskAt h d x O) (hwn : x.waits.length ≤ 1073741824) :
    HC Try.prog 25 #[.pointer (some ⟨d, 0, none⟩), .string s] h
      fun v h' => ∃ O', DiskAt h' d (remove x s).2 O' ∧ (∀ q, O' q → O q ∨ h.size ≤ q) ∧ Upd O h h' ∧ v = .int .i64 (remove x s).1 := by
  refine HC_of_vc (args := [.pointer (some ⟨d, 0, none⟩), .string s]) (base := 30) (cuts := []) (bigs := []) hm Try.func25 ?_
  rw [vcRemove]
  have k0 := keep_push h (Obj.cells (Array.mk [Value.string s]) 9 (0, 0))
  have x0 : boxS h.size s (h.push (Obj.cells (Array.mk [Value.string s]) 9 (0, 0))) := push_at _ _
  generalize (h.push (Obj.cells (Array.mk [Value.string s]) 9 (0, 0))) = H at k0 x0
  have hO := hd.1
  have zH := k0.size
  refine ⟨s, reads_load scS (cell_cells0 x0 rfl), does_spec (by kernel_rfl) (hd.keep k0) hwn (fun h' O' e he h0 hd' sub u => ?_) fun h1 c1 p1 c2 p2 A n c hm1 hp hb u1 => ?_⟩
  · have hs : remove x s = may x s := by
      unfold remove
      cases hm0 : may x s with
      | mk e' d1 =>
        rw [hm0] at he
        simp only at he ⊢
        rw [if_neg (by rw [he]; exact h0)]
    refine ⟨_, rfl, br_intro (fun h1 => absurd (by simpa using h1) h0) fun _ => ⟨O', ?_, fun q h => (sub q h).imp id fun h => by omega, (k0.upd O).trans u, ?_⟩⟩
    · rw [hs]; exact hd'
    · rw [hs, he]
  · have hs : remove x s = (0, { act x with now := del s x.now, safe := del s x.safe, waits := drop x.waits s 0 }) := by
      unfold remove; rw [hm1]; rfl
    have e : (Array.mk [Value.agg (Array.mk [.map (some c1), .map (some p1)])] ++ Array.mk [Value.pointer (some ⟨h.size, 0, none⟩)]) = #[Value.agg #[.map (some c1), .map (some p1)], Value.pointer (some ⟨h.size, 0, none⟩)] := by simp
    rw [e]
    have nd := hp.nd
    simp at nd
    have hlt : ∀ b, blks d c1 p1 c2 p2 A b → b < h.size := fun b h0 => hO b (hb b h0)
    have x1 : boxS h.size s h1 := u1.at x0 fun h0 => by have := hO _ h0; omega
    have l1 := len_now hp.ok s
    have l2 := hp.ok.fewer s
    obtain ⟨⟨t1, t2, t3, t4⟩, t5, t6, t7, t8⟩ := two_ne hp
    refine (rem1_spec hp.now hp.ok.now (by omega) (by omega) x1 ⟨fun e => by have := hlt c1 (.inr (.inl rfl)); omega, fun e => by have := hlt p1 (.inr (.inr (.inl rfl))); omega⟩).mono ?_
    rintro v h2 ⟨s2, u2, rfl⟩
    have b2 := u2.at hp.box t1
    have x2 := u2.at x1 (fun h0 => by have := hlt _ (two_blks1 _ h0); omega)
    refine ⟨rfl, _, rfl, br_intro (fun _ => ?_) (fun e => by cases e)⟩
    refine ⟨_, rfl, _, _, box_side2 b2, (rem1_spec (hp.safe.upd u2 t2 t3) hp.ok.safe (by omega) (by omega) x2 ⟨fun e => by have := hlt c2 (.inr (.inr (.inr (.inl rfl)))); omega, fun e => by have := hlt p2 (.inr (.inr (.inr (.inr (.inl rfl))))); omega⟩).mono ?_⟩
    rintro v h8 ⟨s8, u8, rfl⟩
    have b8 := u8.at b2 t5
    have x8 := u8.at x2 (fun h0 => by have := hlt _ (two_blks2 _ h0); omega)
    have w8 := (hp.waits.upd u2 t4).upd u8 t8
    have nw := fun q hq => hp.ne_waits (b := q) hq
    have nm := hp.ne_map
    refine ⟨rfl, _, rfl, A, n, c, reads_load scWs (cell_cells b8 (by simp [diskC])), (delF_spec (X := boxS h.size s) (pred_remove h.size s) (fun a b ha k => k.at ha (at_lt ha)) (fun a b ha u => u.at ha fun hq => by have := hlt h.size (.inr (.inr (.inr (.inr (.inr hq))))); omega) w8 x8 (by have := hp.waits.1; have : x.waits.length = n := this; omega)).mono ?_⟩
    rintro v h14 ⟨o14, u14, rfl⟩
    have b14 := u14.at b8 fun h0 => (nw _ h0).1 rfl
    refine ⟨_, _, _, rfl, _, rfl, svc_store_box szWs b14 (by simp [diskC]) rfl (one_slice _ _ _) fun h20 s20 b20 u20 => ?_⟩
    have ub : Upd (blks d c1 p1 c2 p2 A) h1 h20 := (u2.mono two_blks1).trans ((u8.mono two_blks2).trans ((u14.mono fun q h => .inr (.inr (.inr (.inr (.inr h))))).trans (u20.mono fun q e => .inl e)))
    have uall : Upd O h h20 := (k0.upd O).trans (u1.trans (ub.mono hb))
    rw [hs]
    refine ⟨O, ⟨fun q h0 => Nat.lt_of_lt_of_le (hO q h0) uall.size, c1, p1, c2, p2, A, (x.waits.filter fun w => !decide (w.n = s)).length, c, ⟨?_, ?_, ?_, ?_, hp.nd, ok_remove hp.ok s⟩, hb⟩, fun q h => .inl h, uall, rfl⟩
    · rw [b20]; simp [diskC, act]
    · exact ((s2.upd u8 t6 t7).upd u14 (fun h => (nw _ h).2.1 rfl) (fun h => (nw _ h).2.2.1 rfl)).upd u20 (Ne.symm nm.1) (Ne.symm nm.2.1)
    · exact (s8.upd u14 (fun h => (nw _ h).2.2.2.1 rfl) (fun h => (nw _ h).2.2.2.2 rfl)).upd u20 (Ne.symm nm.2.2.1) (Ne.symm nm.2.2.2)
    · show Own _ _ _ _ _ _ _ (drop x.waits s 0)
      rw [drop0]
      exact o14.upd u20 fun q hq => (nw _ hq).1
end Go.Proofs.Ytembbemljejjbaa
