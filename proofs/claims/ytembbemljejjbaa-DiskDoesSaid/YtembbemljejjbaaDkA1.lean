/-
  The disk's syncs. Conditions: none.
-/
import Derived.Test.YtembbemljejjbaaDk9
set_option linter.unusedVariables false
set_option linter.unusedSimpArgs false
set_option maxRecDepth 100000
namespace Go.Proofs.Ytembbemljejjbaa
open Go Go.Vc Go.Proofs Go.Dk

theorem settle_spec {h : Heap} {d : Nat} {x : D} {O : Nat → Prop} {s : Str} (hd : DiskAt h d x O) (hwn : x.waits.length ≤ 1073741824) :
    HC Try.prog 52 #[.pointer (some ⟨d, 0, none⟩), .string s] h
      fun v h' => DiskAt h' d { x with safe := put s (pgs x.now s) x.safe, waits := drop x.waits s 0 } O ∧ Upd O h h' ∧ v = .tuple #[] := by
  obtain ⟨hO, c1, p1, c2, p2, A, n, c, hp, hb⟩ := hd
  have hl4 := len_now hp.ok s
  refine HC_of_vc (args := [.pointer (some ⟨d, 0, none⟩), .string s]) (base := 54) (cuts := []) (bigs := []) hm Try.func52 ?_
  rw [vcSettle]
  have k0 := keep_push h (Obj.cells (Array.mk [Value.string s]) 9 (0, 0))
  have x0 : boxS h.size s (h.push (Obj.cells (Array.mk [Value.string s]) 9 (0, 0))) := push_at _ _
  have z0 : (h.push (Obj.cells (Array.mk [Value.string s]) 9 (0, 0))).size = h.size + 1 := by simp
  generalize (h.push (Obj.cells (Array.mk [Value.string s]) 9 (0, 0))) = H at k0 x0 z0
  have hpH := hp.upd (k0.upd fun _ => False) fun _ _ h => h
  have hblk : ∀ q, blks d c1 p1 c2 p2 A q → q < h.size := fun q hq => hp.lt hq
  have nd := hp.nd
  simp at nd
  have u0 : Upd (blks d c1 p1 c2 p2 A) h H := k0.upd _
  refine ⟨_, rfl, _, _, hpH.side2, _, reads_load scS (cell_cells0 x0 rfl), (cutS_spec (k := 0) hpH.safe hpH.ok.safe (by omega) (by omega) (by have := hp.ok.fewer s; omega)).mono ?_⟩
  rintro v h5 ⟨s5, u5, rfl⟩
  rw [List.take_zero] at s5
  have off2 : ∀ {q}, two c2 p2 q → q < h.size := fun h => hblk _ (two_blks2 _ h)
  have x5 : boxS h.size s h5 := u5.at x0 fun h => by have := off2 h; omega
  have ok5 : Ok { x with safe := put s [] x.safe } := ok_safe hp.ok (srt_put hp.ok.safe _ _) (fun q => by
      rw [Dk.pgs_put hp.ok.safe]; split
      · simp
      · exact hp.ok.fewer q) fun q p hq => by
      rw [Dk.pgs_put hp.ok.safe] at hq; split at hq
      · cases hq
      · exact hp.ok.psafe _ _ hq
  have hp5 := hpH.safe_turn u5 s5 ok5
  obtain ⟨mc5, mp5, hc5, hm5, hl5⟩ := hp5.safe
  refine ⟨rfl, _, rfl, some c2, reads_load scMc (hp5.rd rfl), _, reads_load scS (cell_cells0 x5 rfl), svc_mapUpdate (M := Mc) (k := s) (v := 0) hc5 fun h10 s10 u10 m10 => ?_⟩
  have u10' : Upd (two c2 p2) h5 h10 := u10.mono fun b e => .inl e
  have x10 : boxS h.size s h10 := u10'.at x5 fun h => by have := off2 h; omega
  have s10 : SideAt h10 c2 p2 (put s [] x.safe) := by
    have h0 := hl5.put0 ok5.safe s (by show pgs (put s [] x.safe) s = []; rw [Dk.pgs_put hp.ok.safe, if_pos rfl])
    have e : put s [] (put s [] x.safe) = put s [] x.safe := put_put hp.ok.safe _ _ _
    have h0 : Like (put s [] (put s [] x.safe)) (mPut mc5 s 0) mp5 := h0
    rw [e] at h0
    exact ⟨_, _, m10, hm5.upd u10 (by omega), h0⟩
  have hp10 := hp5.safe_turn u10' s10 ok5
  obtain ⟨mc1, mp1, hc1, hm1, hl1⟩ := hp10.now
  refine ⟨_, rfl, some c1, reads_load scMc (cell_cells0 hp10.box rfl), _, reads_load scS (cell_cells0 x10 rfl), _, reads_count hc1 hl1 s, ?_⟩
  have okk : ∀ k, Ok { x with safe := put s ((pgs x.now s).take k) x.safe } := fun k => ok_safe hp.ok (srt_put hp.ok.safe _ _) (fun q => by
      rw [Dk.pgs_put hp.ok.safe]; split
      · rename_i e; subst e; simp; omega
      · exact hp.ok.fewer q) fun q p hq => by
      rw [Dk.pgs_put hp.ok.safe] at hq; split at hq
      · rename_i e; subst e; exact hp.ok.pnow _ _ (List.mem_of_mem_take hq)
      · exact hp.ok.psafe _ _ hq
  have ux : Upd (blks d c1 p1 c2 p2 A) h h10 := u0.trans ((u5.mono two_blks2).trans (u10'.mono two_blks2))
  refine ⟨fun n17 h18 => ∃ k : Nat, n17 = k ∧ k ≤ (pgs x.now s).length ∧ DiskP h18 d c1 p1 c2 p2 A n c { x with safe := put s ((pgs x.now s).take k) x.safe } ∧ boxS h.size s h18 ∧ Upd (blks d c1 p1 c2 p2 A) h h18,
    fun n17 _ => (pgs x.now s).length - n17.toNat, ⟨0, rfl, by omega, by rw [List.take_zero]; exact hp10, x10, ux⟩, ?_⟩
  rintro n17 h18 ⟨k, rfl, hk, hp18, x18, u18⟩
  refine br_intro (fun hlt => ?_) (fun hge => ?_)
  · have hlt : k < (pgs x.now s).length := by have : (k : Int) < (pgs x.now s).length := by simpa using hlt
                                              omega
    obtain ⟨mc2, mp2, hc2, hm2, hl2⟩ := hp18.now
    have hpg : pg x.now s (k : Int) = (pgs x.now s)[k] := by
      unfold pg; rw [if_pos (by omega), Int.toNat_natCast, List.getD_eq_getElem?_getD, List.getElem?_eq_getElem hlt]; rfl
    have hrp := reads_page hm2 hl2 s (k : Int)
    refine ⟨_, rfl, _, _, hp18.side2, _, reads_load scS (cell_cells0 x18 rfl), _, rfl, some p1, reads_load scMp (hp18.rd rfl), _, reads_load scS (cell_cells0 x18 rfl), _, hrp, (set_spec hp18.safe hp18.ok.safe (by omega) (by omega)).mono ?_⟩
    rintro v h28 ⟨s28, u28, rfl⟩
    have x28 : boxS h.size s h28 := u28.at x18 fun h => by have := off2 h; omega
    have e1 : pgs (put s ((pgs x.now s).take k) x.safe) s = (pgs x.now s).take k := by rw [Dk.pgs_put hp.ok.safe, if_pos rfl]
    have e2 : put s (setP (pgs (put s ((pgs x.now s).take k) x.safe) s) k (pg x.now s (k : Int))) (put s ((pgs x.now s).take k) x.safe) = put s ((pgs x.now s).take (k + 1)) x.safe := by
      rw [e1, hpg, setP_take hlt, put_put hp.ok.safe]
    have s28 : SideAt h28 c2 p2 (put s ((pgs x.now s).take (k + 1)) x.safe) := by rw [← e2]; exact s28
    rw [wrap_i64 (by omega) (by omega)]
    exact ⟨rfl, ⟨k + 1, rfl, hlt, hp18.safe_turn u28 s28 (okk (k + 1)), x28, u18.trans (u28.mono two_blks2)⟩, by dsimp only; omega⟩
  · have hk' : k = (pgs x.now s).length := by have : ¬ (k : Int) < (pgs x.now s).length := by simpa using hge
                                              omega
    rw [hk', List.take_length] at hp18
    have hw18 := hp18.waits
    refine ⟨_, rfl, A, n, c, reads_load scWs (hp18.rd rfl), (delF_spec (X := boxS h.size s) (pred_settle h.size s) (fun a b ha k => k.at ha (at_lt ha)) (fun a b ha u => u.at ha fun hq => by have := hblk h.size (.inr (.inr (.inr (.inr (.inr hq))))); omega) hw18 x18 (by have := hw18.1; have : x.waits.length = n := this; omega)).mono ?_⟩
    rintro v h34 ⟨o34, u34, rfl⟩
    have nw := fun q hq => hp18.ne_waits (b := q) hq
    have nm := hp18.ne_map
    have b34 := u34.at hp18.box fun h => (nw _ h).1 rfl
    refine ⟨_, _, _, rfl, _, rfl, svc_store_box szWs b34 (by simp [diskC]) rfl (one_slice _ _ _) fun h40 s40 b40 u40 => ?_⟩
    have hOd := hb d (.inl rfl)
    have uall : Upd (blks d c1 p1 c2 p2 A) h h40 := u18.trans ((u34.mono fun q h => .inr (.inr (.inr (.inr (.inr h))))).trans (u40.mono fun q e => .inl e))
    refine ⟨⟨fun q h0 => Nat.lt_of_lt_of_le (hO q h0) uall.size, c1, p1, c2, p2, A, (x.waits.filter fun w => !decide (w.n = s)).length, c, ⟨?_, ?_, ?_, ?_, hp.nd, ok_settle hp.ok s⟩, hb⟩, uall.mono hb, by first | rfl | trivial⟩
    · rw [b40]; simp [diskC]
    · exact (hp18.now.upd u34 (fun h => (nw _ h).2.1 rfl) (fun h => (nw _ h).2.2.1 rfl)).upd u40 (Ne.symm nm.1) (Ne.symm nm.2.1)
    · exact (hp18.safe.upd u34 (fun h => (nw _ h).2.2.2.1 rfl) (fun h => (nw _ h).2.2.2.2 rfl)).upd u40 (Ne.symm nm.2.2.1) (Ne.symm nm.2.2.2)
    · show Own _ _ _ _ _ _ _ (drop x.waits s 0)
      rw [drop0]
      exact o34.upd u40 fun q hq => (nw _ hq).1

end Go.Proofs.Ytembbemljejjbaa
