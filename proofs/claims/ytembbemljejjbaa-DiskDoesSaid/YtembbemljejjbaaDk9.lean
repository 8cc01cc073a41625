/-
  The disk's syncs. Conditions: none.
-/
import Derived.Test.YtembbemljejjbaaDk8
set_option linter.unusedVariables false
set_option linter.unusedSimpArgs false
set_option maxRecDepth 100000
namespace Go.Proofs.Ytembbemljejjbaa
open Go Go.Vc Go.Proofs Go.Dk

theorem Like.cut {F : Fs} {mc : List (Str × Int)} {mp mp' : List ((Str × Int) × Str)} (hl : Like F mc mp) (hF : SrtF F) (s : Str) (k : Nat) (i : Int) (hi : ((pgs F s).length : Int) ≤ i)
    (hm : ∀ q j, mGet mp' (q, j) = if q = s ∧ (k : Int) ≤ j ∧ j < i then none else mGet mp (q, j)) (v : Int) (hv : v = min ((pgs F s).length : Int) k) :
    Like (put s ((pgs F s).take k) F) (mPut mc s v) mp' := by
  refine ⟨fun q => ?_, fun q j => ?_, fun q j hj => ?_⟩
  · rw [mGet_put, get_put hF]
    by_cases e : s = q
    · subst e; simp [hv]; omega
    · rw [if_neg e, if_neg (Ne.symm e)]; exact hl.count q
  · rw [hm]
    have h0 := hl.page q j
    unfold pg at h0 ⊢
    rw [Dk.pgs_put hF]
    by_cases e : q = s
    · subst e
      rw [if_pos rfl]
      by_cases h1 : 0 ≤ j
      · rw [if_pos h1] at h0 ⊢
        by_cases h2 : (k : Int) ≤ j
        · have h3 : ((pgs F q).take k).getD j.toNat zp = zp := by
            rw [List.getD_eq_getElem?_getD, List.getElem?_eq_none (by simp; omega)]; rfl
          rw [h3]
          by_cases h4 : j < i
          · rw [if_pos ⟨rfl, h2, h4⟩]; rfl
          · rw [if_neg (by omega), h0, List.getD_eq_getElem?_getD, List.getElem?_eq_none (by omega)]; rfl
        · rw [if_neg (by omega), h0]
          simp only [List.getD_eq_getElem?_getD, List.getElem?_take]
          rw [if_pos (by omega)]
      · rw [if_neg (by omega), if_neg h1]; rw [if_neg h1] at h0; exact h0
    · rw [if_neg (fun h => e h.1), if_neg e]; exact h0
  · rw [hm] at hj
    rw [Dk.pgs_put hF]
    by_cases e : q = s
    · subst e
      rw [if_pos rfl]
      by_cases h2 : (k : Int) ≤ j ∧ j < i
      · rw [if_pos ⟨rfl, h2⟩] at hj; cases hj
      · rw [if_neg (fun h => h2 h.2)] at hj
        have := hl.there q j hj
        simp; omega
    · rw [if_neg (fun h => e h.1)] at hj
      rw [if_neg e]; exact hl.there q j hj

theorem cutS_spec {h : Heap} {c p : Nat} {F : Fs} {s : Str} {k : Nat} (hs : SideAt h c p F) (hF : SrtF F) (hne : c ≠ p) (hk : k < 9223372036854775808) (hlen : (pgs F s).length < 4611686018427387904) :
    HC Try.prog 54 #[.agg #[.map (some c), .map (some p)], .string s, .int .i64 k] h
      fun v h' => SideAt h' c p (put s ((pgs F s).take k) F) ∧ Upd (two c p) h h' ∧ v = .tuple #[] := by
  obtain ⟨mc, mp, hc, hp, hl⟩ := hs
  refine HC_of_vc (args := [.agg #[.map (some c), .map (some p)], .string s, .int .i64 k]) (base := 30) (cuts := []) (bigs := []) hm Try.func54 ?_
  rw [vcCutS]
  have kH := keep_push h (Obj.cells (Array.mk [Value.map (some c), Value.map (some p)]) 87 (0, 0))
  have b0 := push_at h (Obj.cells (Array.mk [Value.map (some c), Value.map (some p)]) 87 (0, 0))
  have lc := hc.lt
  have lp := hp.lt
  have hnp : (mKeys mp).Nodup := by obtain ⟨_, _, _, _, h0, _⟩ := hp; exact h0
  refine ⟨fun n2 h3 => ∃ (i : Nat) (mp' : List ((Str × Int) × Str)), n2 = i ∧ k ≤ i ∧ (i ≤ (pgs F s).length ∨ i = k) ∧ h3[h.size]? = some (Obj.cells (Array.mk [Value.map (some c), Value.map (some p)]) 87 (0, 0)) ∧ MapAt Mc h3 c mc ∧ MapAt Mp h3 p mp' ∧ (mKeys mp').Nodup ∧
      (∀ q j, mGet mp' (q, j) = if q = s ∧ (k : Int) ≤ j ∧ j < i then none else mGet mp (q, j)) ∧ Upd (two c p) h h3,
    fun n2 _ => (pgs F s).length - n2.toNat, ⟨k, mp, rfl, Nat.le_refl _, .inr rfl, b0, hc.keep kH, hp.keep kH, hnp, fun q j => by rw [if_neg (by omega)], kH.upd _⟩, ?_⟩
  rintro n2 h3 ⟨i, mp', rfl, hki, hil, b3, c3, p3, nd3, m3, u3⟩
  refine ⟨_, reads_load scMc (cell_cells0 b3 rfl), _, reads_count c3 hl s, br_intro (fun hlt => ?_) (fun hge => ?_)⟩
  · have hlt : i < (pgs F s).length := by simpa using hlt
    refine ⟨some p, reads_load scMp (cell_cells b3 rfl), svc_delete (M := Mp) (k := (s, (i : Int))) p3 fun h8 s8 u8 m8 => ⟨rfl, ?_⟩⟩
    rw [wrap_i64 (by omega) (by omega)]
    refine ⟨⟨i + 1, _, rfl, by omega, .inl hlt, u8.at b3 (by omega), c3.upd u8 hne, m8, mNodup_del nd3 _, fun q j => ?_, u3.trans (u8.mono fun b e => .inr e)⟩, by dsimp only; omega⟩
    rw [mGet_del nd3, m3]
    by_cases e : (s, (i : Int)) = (q, j)
    · cases e; rw [if_pos rfl, if_pos ⟨rfl, by omega, by omega⟩]
    · rw [if_neg e]
      by_cases e2 : q = s ∧ (k : Int) ≤ j ∧ j < i
      · rw [if_pos e2, if_pos ⟨e2.1, e2.2.1, by omega⟩]
      · rw [if_neg e2, if_neg fun h => e2 ⟨h.1, h.2.1, by
          have : j ≠ i := fun h0 => e (by rw [h0, h.1])
          omega⟩]
  · have hge : ((pgs F s).length : Int) ≤ i := by simpa using hge
    refine ⟨some c, reads_load scMc (cell_cells0 b3 rfl), some c, reads_load scMc (cell_cells0 b3 rfl), _, reads_count c3 hl s, _, reads_min, svc_mapUpdate (M := Mc) (k := s) c3 fun h14 s14 u14 m14 => ?_⟩
    refine ⟨⟨_, _, m14, p3.upd u14 (Ne.symm hne), hl.cut hF s k i hge m3 _ ?_⟩, u3.trans (u14.mono fun b e => .inl e), by first | rfl | trivial⟩
    split <;> omega

theorem Like.put0 {F : Fs} {mc : List (Str × Int)} {mp : List ((Str × Int) × Str)} (hl : Like F mc mp) (hF : SrtF F) (n : Str) (hn : pgs F n = []) : Like (put n [] F) (mPut mc n 0) mp := by
  have hp : ∀ m, pgs (put n [] F) m = pgs F m := fun m => by
    rw [Dk.pgs_put hF]; split
    · rename_i e; subst e; exact hn.symm
    · rfl
  refine ⟨fun m => ?_, fun m i => ?_, fun m i hi => ?_⟩
  · rw [mGet_put, get_put hF]
    by_cases e : n = m
    · subst e; simp
    · rw [if_neg e, if_neg (Ne.symm e)]; exact hl.count m
  · have := hl.page m i; unfold pg at this ⊢; rw [hp]; exact this
  · rw [hp]; exact hl.there m i hi
theorem put_put {F : Fs} (hF : SrtF F) (n : Str) (a b : List Str) : put n a (put n b F) = put n a F :=
  fs_ext (srt_put (srt_put hF _ _) _ _) (srt_put hF _ _) fun q => by rw [get_put (srt_put hF _ _), get_put hF, get_put hF]; split <;> rfl
theorem setP_take {l : List Str} {k : Nat} (hk : k < l.length) : setP (l.take k) k (l[k]) = l.take (k + 1) := by
  unfold setP
  have h1 : (l.take k).length = k := by simp; omega
  rw [h1, show k + 1 - k = 1 by omega, List.take_succ_eq_append_getElem hk]
  show (l.take k ++ [zp]).set k l[k] = _
  rw [List.set_append_right _ _ (by omega), h1, Nat.sub_self]; rfl

/-- a box that holds a text. -/
def boxS (q : Nat) (s : Str) (h : Heap) : Prop := h[q]? = some (.cells (Array.mk [Value.string s]) 9 (0, 0))
theorem pred_settle (q : Nat) (s : Str) : PredC 90 (Array.mk [.pointer (some ⟨q, 0, none⟩)]) (fun w => decide (w.n = s)) (boxS q s) := by
  refine ⟨by kernel_rfl, fun h w hx => ?_⟩
  have e : (Array.mk [Value.agg (WtE.enc w).toArray] ++ Array.mk [Value.pointer (some ⟨q, 0, none⟩)]) = [Value.agg (WtE.enc w).toArray, Value.pointer (some ⟨q, 0, none⟩)].toArray := by simp
  rw [e]
  refine HC_of_vc (args := [.agg (WtE.enc w).toArray, .pointer (some ⟨q, 0, none⟩)]) (base := 9) (cuts := []) (bigs := []) hm Try.func90 ?_
  rw [vcSettle1]
  have kp := keep_push h (.cells (WtE.enc w).toArray 98 (0, 0))
  refine ⟨w.n, reads_load scS (cell_cells0 (push_at h (.cells (WtE.enc w).toArray 98 (0, 0))) (by simp [WtE])), s, reads_load scS (cell_cells0 (kp.at hx (at_lt hx)) rfl), kp, ?_⟩
  rw [beq_dec']

theorem drop0 (ws : List Wt) (s : Str) : drop ws s 0 = ws.filter fun w => !decide (w.n = s) := by
  unfold drop
  congr 1; funext w
  have : decide ((0 : Int) ≤ (w.i : Int)) = true := by simp
  rw [this, Bool.and_true]
theorem ok_settle {x : D} (h : Ok x) (s : Str) : Ok { x with safe := put s (pgs x.now s) x.safe, waits := drop x.waits s 0 } := by
  refine ⟨h.now, srt_put h.safe _ _, h.room, h.tot, fun n => ?_, fun w hw => h.waits w (List.mem_filter.1 hw).1, h.pnow, fun n p hp => ?_, h.fuse, h.keep⟩
  · show (pgs (put s (pgs x.now s) x.safe) n).length ≤ _
    rw [Dk.pgs_put h.safe]; split
    · rename_i e; subst e; exact Nat.le_refl _
    · exact h.fewer n
  · have hp : p ∈ pgs (put s (pgs x.now s) x.safe) n := hp
    rw [Dk.pgs_put h.safe] at hp; split at hp
    · exact h.pnow _ _ hp
    · exact h.psafe _ _ hp
theorem len_now {x : D} (h : Ok x) (s : Str) : (pgs x.now s).length ≤ 4096 := by
  have h3 := tot_put h.now s []
  have h1 := h.tot
  have h2 := h.room
  simp at h3
  omega

end Go.Proofs.Ytembbemljejjbaa
