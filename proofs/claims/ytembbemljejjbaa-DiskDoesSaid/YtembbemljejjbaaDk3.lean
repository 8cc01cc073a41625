/-
  The disk's copies of sides, its beginning, and its small calls. Conditions: none.
-/
import Derived.Test.YtembbemljejjbaaDk2
import Derived.Test.YtembbemljejjbaaDkC
import Derived.Test.YtembbemljejjbaaG2
set_option linter.unusedVariables false
set_option linter.unusedSimpArgs false
set_option maxRecDepth 100000
namespace Go.Proofs.Ytembbemljejjbaa
open Go Go.Vc Go.Proofs Go.Dk

theorem clone_mapC {h : Heap} {b : Nat} {m : List (Str × Int)} (hm0 : MapAt Mc h b m) :
    HC Try.prog 88 #[.map (some b)] h fun v h' => Keep h.size h h' ∧ v = .map (some h.size) ∧ MapAt Mc h' h.size m ∧ h'.size = h.size + 1 := by
  obtain ⟨es, clock, hb, rest⟩ := hm0
  refine ⟨fun w hw => ?_⟩
  subst hw
  refine (Try.cloneC_calls b es clock w hb).mono ?_
  rintro e w' ⟨rfl, rfl⟩
  exact ⟨_, rfl, ⟨rfl, rfl, rfl⟩, keep_push _ _, rfl, ⟨es, clock, push_at _ _, rest⟩, by show (w.heap.push _).size = _; simp⟩
theorem clone_mapP {h : Heap} {b : Nat} {m : List ((Str × Int) × Str)} (hm0 : MapAt Mp h b m) :
    HC Try.prog 89 #[.map (some b)] h fun v h' => Keep h.size h h' ∧ v = .map (some h.size) ∧ MapAt Mp h' h.size m ∧ h'.size = h.size + 1 := by
  obtain ⟨es, clock, hb, rest⟩ := hm0
  refine ⟨fun w hw => ?_⟩
  subst hw
  refine (Try.cloneP_calls b es clock w hb).mono ?_
  rintro e w' ⟨rfl, rfl⟩
  exact ⟨_, rfl, ⟨rfl, rfl, rfl⟩, keep_push _ _, rfl, ⟨es, clock, push_at _ _, rest⟩, by show (w.heap.push _).size = _; simp⟩

theorem side_cells (c p : Nat) : oneCells [Value.map (some c), Value.map (some p)] := fun v hv => by
  simp only [List.mem_cons, List.not_mem_nil, or_false] at hv
  rcases hv with rfl | rfl <;> exact one_map _

theorem clone_spec {h : Heap} {c p : Nat} {F : Fs} (hs : SideAt h c p F) :
    HC Try.prog 46 #[.agg #[.map (some c), .map (some p)]] h
      fun v h' => Keep h.size h h' ∧ ∃ c' p', v = .agg #[.map (some c'), .map (some p')] ∧ SideAt h' c' p' F ∧ h.size ≤ c' ∧ h.size ≤ p' ∧ c' ≠ p' := by
  obtain ⟨mc, mp, hc, hp, hl⟩ := hs
  refine HC_of_vc (args := [.agg #[.map (some c), .map (some p)]]) (base := 10) (cuts := []) (bigs := []) hm Try.func46 ?_
  rw [vcClone]
  generalize hH : ((Array.push h (Obj.cells (Array.mk [Value.map (some c), Value.map (some p)]) 87)).push (Obj.cells (Array.mk [Value.map none, Value.map none]) 87)) = H
  have b0 : H[h.size]? = some (Obj.cells (Array.mk [Value.map (some c), Value.map (some p)]) 87) := by rw [← hH]; exact push2_0 _ _ _
  have b1 : H[h.size + 1]? = some (Obj.cells (Array.mk [Value.map none, Value.map none]) 87) := by rw [← hH]; exact push2_1 _ _ _
  have kH : Keep h.size h H := by rw [← hH]; exact (keep_push h _).trans (Keep.push _ _ _ (by simp))
  have sH : H.size = h.size + 2 := by rw [← hH]; simp
  clear hH
  simp only [Array.size_push]
  refine ⟨fun h' => h'[h.size]? = some (Obj.cells (Array.mk [Value.map (some c), Value.map (some p)]) 87), b0, some c, reads_load scMc (cell_cells0 b0 rfl), (clone_mapC (hc.keep kH)).mono ?_⟩
  rintro v h3 ⟨k3, rfl, m3, s3⟩
  have e3 := k3.at b0 (by omega)
  refine ⟨_, rfl, e3, some p, fun h6 e6 => reads_load scMp (cell_cells e6 rfl), (clone_mapP ((hp.keep kH).keep k3)).mono ?_⟩
  rintro v h8 ⟨k8, rfl, m8, s8⟩
  have e8 := k8.at e3 (by omega)
  refine ⟨_, rfl, ?_⟩
  refine svc_store_own (b := h.size + 1) (T := 87) (old := Array.mk [Value.map none, Value.map none]) szSide (k8.at (k3.at b1 (by omega)) (by omega)) rfl (side_cells _ _) fun h11 s11 b11 u11 => ?_
  have uu := upd_of_one s11 u11
  refine ⟨some H.size, some h3.size, (reads_load_agg (p := ⟨h.size + 1, 0, none⟩) (cs := [Value.map (some H.size), Value.map (some h3.size)]) agSide rfl (cells_all b11)), ?_⟩
  refine ⟨kH.trans ((k3.mono kH.size).trans ((k8.mono (by omega)).trans ⟨by omega, fun i hi => u11 i (by omega)⟩)), H.size, h3.size, rfl, ⟨mc, mp, (m3.keep k8).upd uu (by omega), m8.upd uu (by omega), hl⟩, by omega, by omega, by omega⟩

theorem like_nil : Like [] [] [] := ⟨fun n => rfl, fun n i => by simp [mGet, pg, pgs], fun n i h => by cases h⟩
theorem new_ok (room : Int) : Ok (new room) :=
  ⟨List.Pairwise.nil, List.Pairwise.nil, by show (min (max room 0) 4096).toNat ≤ 4096; omega, Nat.zero_le _, fun n => Nat.le_refl _, fun w hw => (by cases hw), fun n p hp => (by cases hp), fun n p hp => (by cases hp), Nat.zero_le _, ⟨Int.le_refl 0, by show (0 : Int) < _; decide⟩⟩
theorem new_spec (h : Heap) (room : Int) :
    HC Try.prog 14 #[.int .i64 room] h fun v h' => Keep h.size h h' ∧ ∃ d, v = .pointer (some ⟨d, 0, none⟩) ∧ DiskAt h' d (new room) fun b => h.size ≤ b ∧ b < h'.size := by
  refine HC_of_vc (args := [.int .i64 room]) (base := 15) (cuts := []) (bigs := []) hm Try.func14 ?_
  rw [vcNew]
  generalize hH : ((Array.push h (Obj.map (Array.mk []) 0)).push (Obj.map (Array.mk []) 0)) = H
  have m0 : MapAt Mc H h.size [] := by rw [← hH]; exact ⟨#[], 0, push2_0 _ _ _, rfl, List.nodup_nil, by simp, by simp⟩
  have m1 : MapAt Mp H (h.size + 1) [] := by rw [← hH]; exact ⟨#[], 0, push2_1 _ _ _, rfl, List.nodup_nil, by simp, by simp⟩
  have kH : Keep h.size h H := by rw [← hH]; exact (keep_push h _).trans (Keep.push _ _ _ (by simp))
  have sH : H.size = h.size + 2 := by rw [← hH]; simp
  clear hH
  simp only [Array.size_push]
  refine svc_store_new (v := .agg _) szSide rfl (side_cells _ _) ?_
  have b2 := push_at H (Obj.cells (Value.cells (.agg (Array.mk [Value.map (some h.size), Value.map (some (h.size + 1))]))) 87 (0, 0))
  have k1 := keep_push H (Obj.cells (Value.cells (.agg (Array.mk [Value.map (some h.size), Value.map (some (h.size + 1))]))) 87 (0, 0))
  have rd : ∀ {h5 : Heap}, h5[H.size]? = some (Obj.cells (Array.mk [Value.map (some h.size), Value.map (some (h.size + 1))]) 87 (0, 0)) →
      Reads Try.prog (Instr.loadAt 87 (.pointer (some ⟨H.size, 0, none⟩))) h5 (.agg (Array.mk [Value.map (some h.size), Value.map (some (h.size + 1))])) := fun h5 =>
    reads_load_agg (cs := [Value.map (some h.size), Value.map (some (h.size + 1))]) agSide rfl (cells_all h5)
  refine ⟨fun h' => h'[H.size]? = some (Obj.cells (Array.mk [Value.map (some h.size), Value.map (some (h.size + 1))]) 87 (0, 0)), b2, some h.size, some (h.size + 1), fun h5 e5 => rd e5, _, _, rd b2, ?_⟩
  have s1 : SideAt (H.push (Obj.cells (Value.cells (.agg (Array.mk [Value.map (some h.size), Value.map (some (h.size + 1))]))) 87 (0, 0))) h.size (h.size + 1) [] := ⟨[], [], m0.keep k1, m1.keep k1, like_nil⟩
  refine (clone_spec s1).mono ?_
  rintro v h9 ⟨k9, c', p', rfl, s9, l1, l2, l3⟩
  have e9 := k9.at b2 (by simp)
  have z9 := k9.size
  simp only [Array.size_push] at l1 l2 z9
  refine ⟨_, _, rfl, e9, _, fun _ _ => reads_max, _, fun _ _ => reads_min, ?_⟩
  have kp := keep_push h9 (Obj.cells (Array.mk (diskC h.size (h.size + 1) c' p' none 0 0 (new room))) 91 (0, 0))
  have hr : (if (4096 : Int) < (if (0 : Int) > room then 0 else room) then 4096 else (if (0 : Int) > room then 0 else room)) = (new room).room := by
    show _ = ((min (max room 0) 4096).toNat : Int)
    split <;> split <;> omega
  have ebox : (Obj.cells (Array.mk [Value.map (some h.size), Value.map (some (h.size + 1)), Value.map (some c'), Value.map (some p'), Value.slice none 0 0, Value.int IntKind.i64 (if (4096 : Int) < (if (0 : Int) > room then 0 else room) then 4096 else (if (0 : Int) > room then 0 else room)), Value.bool false, Value.int IntKind.i64 0, Value.int IntKind.i64 0, Value.int IntKind.u64 0]) 91 (0, 0)) = Obj.cells (Array.mk (diskC h.size (h.size + 1) c' p' none 0 0 (new room))) 91 (0, 0) := by
    rw [hr]; rfl
  rw [ebox]
  have kk : Keep h.size h (h9.push (Obj.cells (Array.mk (diskC h.size (h.size + 1) c' p' none 0 0 (new room))) 91 (0, 0))) :=
    kH.trans ((k1.mono (by omega)).trans ((k9.mono (by simp; omega)).trans (kp.mono (by omega))))
  have s19 : SideAt h9 h.size (h.size + 1) [] := s1.upd (k9.upd fun _ => False) (fun h => h) (fun h => h)
  refine ⟨kk, h9.size, rfl, fun b hb => by simpa using hb.2, h.size, h.size + 1, c', p', none, 0, 0, ⟨push_at _ _, s19.upd (kp.upd fun _ => False) (fun h => h) (fun h => h), s9.upd (kp.upd fun _ => False) (fun h => h) (fun h => h), Own.nil _ _ _, ?_, new_ok room⟩, ?_⟩
  · simp; omega
  · have := s9.lt
    rintro b (rfl | rfl | rfl | rfl | rfl | ⟨q, e, _⟩)
    all_goals first | (cases e) | omega | (simp only [Array.size_push]; omega)

theorem on_spec {h : Heap} {d : Nat} {x : D} {O : Nat → Prop} (hd : DiskAt h d x O) :
    HC Try.prog 20 #[.pointer (some ⟨d, 0, none⟩)] h fun v h' => DiskAt h' d (on x) O ∧ Upd O h h' ∧ v = .tuple #[] := by
  obtain ⟨hO, c1, p1, c2, p2, A, n, c, hp, hb⟩ := hd
  refine HC_of_vc (args := [.pointer (some ⟨d, 0, none⟩)]) (base := 7) (cuts := []) (bigs := []) hm Try.func20 ?_
  rw [vcOn]
  refine ⟨_, reads_neq_nil undD, br_intro (fun _ => ⟨_, rfl, svc_store_box szB hp.box (by simp [diskC]) rfl (one_bool _) fun h3 s3 b3 u3 => ?_⟩) fun e => by cases e⟩
  exact ⟨⟨fun b h0 => by rw [s3]; exact hO b h0, c1, p1, c2, p2, A, n, c, hp.store (A' := A) (n' := n) (m' := c) b3 (by simp [diskC, on]) u3 rfl rfl rfl ⟨hp.ok.now, hp.ok.safe, hp.ok.room, hp.ok.tot, hp.ok.fewer, hp.ok.waits, hp.ok.pnow, hp.ok.psafe, hp.ok.fuse, hp.ok.keep⟩, hb⟩,
    u3.of_sub fun i _ e => e ▸ hb d (.inl rfl), rfl⟩
theorem arm_spec {h : Heap} {d : Nat} {x : D} {O : Nat → Prop} {n keep : Int} (hd : DiskAt h d x O) (hn : n ≤ 9223372036854775807) (hk : 0 ≤ keep ∧ keep < 18446744073709551616) :
    HC Try.prog 18 #[.pointer (some ⟨d, 0, none⟩), .int .i64 n, .int .u64 keep] h fun v h' => DiskAt h' d (arm x n keep) O ∧ Upd O h h' ∧ v = .tuple #[] := by
  obtain ⟨hO, c1, p1, c2, p2, A, m, c, hp, hb⟩ := hd
  refine HC_of_vc (args := [.pointer (some ⟨d, 0, none⟩), .int .i64 n, .int .u64 keep]) (base := 17) (cuts := []) (bigs := []) hm Try.func18 ?_
  rw [vcArm]
  refine ⟨_, reads_neq_nil undD, br_intro (fun _ => ⟨_, reads_max, _, rfl, svc_store_box szI hp.box (by simp [diskC]) rfl (one_int _ _) fun h4 s4 b4 u4 => ⟨_, rfl, svc_store_box szU b4 (by simp [diskC]) rfl (one_int _ _) fun h7 s7 b7 u7 => ?_⟩⟩) fun e => by cases e⟩
  refine ⟨⟨fun b h0 => by rw [s7, s4]; exact hO b h0, c1, p1, c2, p2, A, m, c, hp.store (A' := A) (n' := m) (m' := c) b7 ?_ (u4.trans u7) rfl rfl rfl ⟨hp.ok.now, hp.ok.safe, hp.ok.room, hp.ok.tot, hp.ok.fewer, hp.ok.waits, hp.ok.pnow, hp.ok.psafe, by show n.toNat ≤ _; omega, hk⟩, hb⟩,
    (u4.trans u7).of_sub fun i _ e => e ▸ hb d (.inl rfl), rfl⟩
  have : (if (0 : Int) > n then 0 else n) = (n.toNat : Int) := by split <;> omega
  simp [diskC, arm, this]
theorem count_spec {h : Heap} {d : Nat} {x : D} {O : Nat → Prop} (hd : DiskAt h d x O) (s : Str) :
    HC Try.prog 21 #[.pointer (some ⟨d, 0, none⟩), .string s] h fun v h' => h' = h ∧ v = .int .i64 (count x s) := by
  have hr := ready_spec hd
  obtain ⟨hO, c1, p1, c2, p2, A, m, c, hp, hb⟩ := hd
  obtain ⟨mc, mp, hc, hmp, hl⟩ := hp.now
  refine HC_of_vc (args := [.pointer (some ⟨d, 0, none⟩), .string s]) (base := 15) (cuts := []) (bigs := []) hm Try.func21 ?_
  rw [vcCount]
  refine hr.mono ?_
  rintro v h1 ⟨rfl, rfl⟩
  refine ⟨_, rfl, br_intro (fun e => ⟨rfl, ?_⟩) fun e => ⟨_, rfl, _, reads_load scMc (cell_cells0 hp.box rfl), _, reads_count hc hl s, rfl, ?_⟩⟩
  · unfold count; cases hdn : x.down <;> simp [hdn] at e ⊢
  · unfold count; cases hdn : x.down <;> simp [hdn] at e ⊢
theorem has_spec {h : Heap} {d : Nat} {x : D} {O : Nat → Prop} (hd : DiskAt h d x O) (s : Str) :
    HC Try.prog 23 #[.pointer (some ⟨d, 0, none⟩), .string s] h fun v h' => h' = h ∧ v = .bool (has x s) := by
  have hr := ready_spec hd
  obtain ⟨hO, c1, p1, c2, p2, A, m, c, hp, hb⟩ := hd
  obtain ⟨mc, mp, hc, hmp, hl⟩ := hp.now
  refine HC_of_vc (args := [.pointer (some ⟨d, 0, none⟩), .string s]) (base := 21) (cuts := []) (bigs := []) hm Try.func23 ?_
  rw [vcHas]
  refine hr.mono ?_
  rintro v h1 ⟨rfl, rfl⟩
  refine ⟨_, rfl, br_intro (fun e => ⟨rfl, ?_⟩) fun e => ⟨_, rfl, _, reads_load scMc (cell_cells0 hp.box rfl), _, _, reads_count2 hc hl s, rfl, ?_⟩⟩
  · unfold has; cases hdn : x.down <;> simp [hdn] at e ⊢
  · unfold has; cases hdn : x.down <;> simp [hdn] at e ⊢
theorem pgC_bytes {q : Str} (hq : q.size = 512) : pgC q = (bytesL q).map fun b => Value.int .u8 (b.toNat : Nat) := by
  have hq' : q.data.size = 512 := hq
  apply List.ext_getElem?
  intro j
  simp only [pgC, List.getElem?_map, bytesL, Array.getElem?_toList]
  by_cases hj : j < 512
  · simp [List.getElem?_range hj, Array.getD, hq', hj]
  · simp [hq', hj]
theorem read_spec {h : Heap} {d : Nat} {x : D} {O : Nat → Prop} (hd : DiskAt h d x O) (s : Str) (i : Int) :
    HC Try.prog 16 #[.pointer (some ⟨d, 0, none⟩), .string s, .int .i64 i] h
      fun v h' => Keep h.size h h' ∧ ∃ b m, v = .tuple #[.slice (if m = 0 then none else some ⟨b, 0, none⟩) m m, .int .i64 (Dk.read x s i).2] ∧ m = (Dk.read x s i).1.size ∧ h.size ≤ b ∧
        (m ≠ 0 → h'[b]? = some (.cells (((bytesL (Dk.read x s i).1).map fun b => Value.int .u8 (b.toNat : Nat))).toArray 96 (0, 0))) := by
  have hr := ready_spec hd
  obtain ⟨hO, c1, p1, c2, p2, A, m, c, hp, hb⟩ := hd
  obtain ⟨mc, mp, hc, hmp, hl⟩ := hp.now
  refine HC_of_vc (args := [.pointer (some ⟨d, 0, none⟩), .string s, .int .i64 i]) (base := 38) (cuts := []) (bigs := []) hm Try.func16 ?_
  rw [vcRead]
  refine hr.mono ?_
  rintro v h1 ⟨rfl, rfl⟩
  refine ⟨_, rfl, br_intro (fun e => ?_) fun e => ⟨_, fun _ => rfl, _, fun _ => reads_load scMc (cell_cells0 hp.box rfl), _, fun _ => reads_count hc hl s, br_intro (fun e2 => ?_) fun e2 => ?_⟩⟩
  · have hdn : x.down = true := by cases hdn : x.down <;> simp [hdn] at e ⊢
    exact ⟨Keep.refl _ _, h1.size, 0, by simp [Dk.read, hdn], by simp [Dk.read, hdn]; rfl, Nat.le_refl _, fun h => absurd rfl h⟩
  · have hdn : x.down = false := by cases hdn : x.down <;> simp [hdn] at e ⊢
    have e2 : i < 0 ∨ ((pgs x.now s).length : Int) ≤ i := by simpa using e2
    exact ⟨Keep.refl _ _, h1.size, 0, by simp [Dk.read, hdn, e2], by simp [Dk.read, hdn, e2]; rfl, Nat.le_refl _, fun h => absurd rfl h⟩
  · have hdn : x.down = false := by cases hdn : x.down <;> simp [hdn] at e ⊢
    have e2 : ¬ (i < 0 ∨ ((pgs x.now s).length : Int) ≤ i) := by simpa using e2
    have hpg : pg x.now s i = (pgs x.now s).getD i.toNat zp := by unfold pg; rw [if_pos (by omega)]
    have hlt : i.toNat < (pgs x.now s).length := by omega
    have h512 : (pg x.now s i).size = 512 := by
      rw [hpg, List.getD_eq_getElem?_getD, List.getElem?_eq_getElem hlt]
      exact hp.ok.pnow s _ (List.getElem_mem hlt)
    have hrd : Dk.read x s i = (pg x.now s i, 0) := by rw [hpg]; simp only [Dk.read, hdn, Bool.false_eq_true, if_false, if_neg e2]
    refine ⟨_, rfl, _, reads_load scMp (hp.rd rfl), _, reads_page hmp hl s i, zc Try.prog 96, ⟨rfl⟩, svc_store_new (v := pv (pg x.now s i)) ?_ ?_ ?_ ?_⟩
    · show szOf _ _ = some (pgC _).toArray.size; rw [List.size_toArray, pgC_len]; exact szPage
    · show _ = (pgC _).toArray.size; exact zcPage.trans (pgC_len _).symm
    · exact pgC_one _
    · refine ⟨by omega, keep_push _ _, h1.size, 512, ?_, by rw [hrd, h512], Nat.le_refl _, fun _ => ?_⟩
      · rw [hrd]; simp [subA, Addr.add]
      · rw [hrd, ← pgC_bytes h512]; exact push_at _ _
end Go.Proofs.Ytembbemljejjbaa
