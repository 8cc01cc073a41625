/-
  The disk's files moved. Conditions: none.
-/
import Derived.Test.YtembbemljejjbaaDkA4
import Derived.Test.YtembbemljejjbaaDkC3
set_option linter.unusedVariables false
set_option linter.unusedSimpArgs false
set_option maxRecDepth 100000
namespace Go.Proofs.Ytembbemljejjbaa
open Go Go.Vc Go.Proofs Go.Dk

theorem Like.move {F : Fs} {mc : List (Str × Int)} {mp mp' : List ((Str × Int) × Str)} {a b : Str} (hab : a ≠ b) (hF : SrtF F) (hl : Like (put b [] F) mc mp) (hn : (mKeys (mPut mc b ((pgs F a).length : Int))).Nodup)
    (hm : ∀ q j, mGet mp' (q, j) = if q = a ∧ 0 ≤ j ∧ j < ((pgs F a).length : Int) then none else if q = b ∧ 0 ≤ j ∧ j < ((pgs F a).length : Int) then mGet mp (a, j) else mGet mp (q, j)) :
    Like (moved a b F) (mDel (mPut mc b ((pgs F a).length : Int)) a) mp' := by
  have pG : ∀ q, pgs (put b [] F) q = if q = b then [] else pgs F q := fun q => Dk.pgs_put hF _ _ _
  have nb : ∀ j, mGet mp (b, j) = none := fun j => by
    cases hg : mGet mp (b, j) with
    | none => rfl
    | some _ =>
      have := hl.there b j (by rw [hg]; rfl)
      rw [pG, if_pos rfl] at this
      simp at this; omega
  have ga : ∀ j, (mGet mp (a, j)).isSome = true → 0 ≤ j ∧ j < ((pgs F a).length : Int) := fun j hj => by
    have := hl.there a j hj
    rw [pG, if_neg hab] at this; exact this
  refine ⟨fun q => ?_, fun q j => ?_, fun q j hj => ?_⟩
  · rw [mGet_del hn, mGet_put, get_moved hF]
    by_cases e1 : q = b
    · subst e1; rw [if_neg hab, if_pos rfl, if_pos rfl]; try rfl
    · by_cases e2 : q = a
      · subst e2; rw [if_pos rfl, if_neg e1, if_pos rfl]; try rfl
      · rw [if_neg (Ne.symm e2), if_neg (Ne.symm e1), if_neg e1, if_neg e2, hl.count, get_put hF, if_neg e1]
  · rw [hm]
    unfold pg
    rw [pgs_moved hF]
    by_cases e2 : q = a
    · subst e2
      rw [if_neg hab, if_pos rfl]
      have hz : (if (0 : Int) ≤ j then ([] : List Str).getD j.toNat zp else zp) = zp := by split <;> rfl
      rw [hz]
      by_cases hr : 0 ≤ j ∧ j < ((pgs F q).length : Int)
      · rw [if_pos ⟨rfl, hr⟩]; rfl
      · rw [if_neg (fun h => hr h.2), if_neg (fun h => hab h.1)]
        cases hg : mGet mp (q, j) with
        | none => rfl
        | some _ => exact absurd (ga j (by rw [hg]; rfl)) hr
    · rw [if_neg (fun h => e2 h.1)]
      by_cases e1 : q = b
      · subst e1
        rw [if_pos rfl]
        by_cases hr : 0 ≤ j ∧ j < ((pgs F a).length : Int)
        · rw [if_pos ⟨rfl, hr⟩, hl.page a j]
          unfold pg
          rw [pG, if_neg hab]
        · rw [if_neg (fun h => hr h.2), nb]
          by_cases h0 : 0 ≤ j
          · rw [if_pos h0, List.getD_eq_getElem?_getD, List.getElem?_eq_none (by omega)]; try rfl
          · rw [if_neg h0]; rfl
      · rw [if_neg (fun h => e1 h.1), if_neg e1, if_neg e2, hl.page q j]
        unfold pg
        rw [pG, if_neg e1]
  · rw [hm] at hj
    rw [pgs_moved hF]
    by_cases e2 : q = a
    · subst e2
      by_cases hr : 0 ≤ j ∧ j < ((pgs F q).length : Int)
      · rw [if_pos ⟨rfl, hr⟩] at hj; cases hj
      · rw [if_neg (fun h => hr h.2), if_neg (fun h => hab h.1)] at hj
        exact absurd (ga j hj) hr
    · rw [if_neg (fun h => e2 h.1)] at hj
      by_cases e1 : q = b
      · subst e1
        rw [if_pos rfl]
        by_cases hr : 0 ≤ j ∧ j < ((pgs F a).length : Int)
        · exact hr
        · rw [if_neg (fun h => hr h.2), nb] at hj; cases hj
      · rw [if_neg (fun h => e1 h.1)] at hj
        rw [if_neg e1, if_neg e2]
        have := hl.there q j hj
        rw [pG, if_neg e1] at this; exact this

theorem move_spec {h : Heap} {c p : Nat} {F : Fs} {a b : Str} (hs : SideAt h c p F) (hF : SrtF F) (hne : c ≠ p) (hab : a ≠ b) (hla : (pgs F a).length < 4611686018427387904) (hlb : (pgs F b).length < 4611686018427387904) :
    HC Try.prog 61 #[.agg #[.map (some c), .map (some p)], .string a, .string b] h
      fun v h' => SideAt h' c p (moved a b F) ∧ Upd (two c p) h h' ∧ v = .tuple #[] := by
  refine HC_of_vc (args := [.agg #[.map (some c), .map (some p)], .string a, .string b]) (base := 51) (cuts := []) (bigs := []) hm Try.func61 ?_
  rw [vcMove]
  have kH := keep_push h (Obj.cells (Array.mk [Value.map (some c), Value.map (some p)]) 87 (0, 0))
  have b0 := push_at h (Obj.cells (Array.mk [Value.map (some c), Value.map (some p)]) 87 (0, 0))
  have hl0 := hs.lt
  refine ⟨some c, some p, reads_load_agg (cs := [Value.map (some c), Value.map (some p)]) agSide rfl (cells_all b0), (cutS_spec (k := 0) (hs.upd (kH.upd fun _ => False) (fun h => h) (fun h => h)) hF hne (by omega) hlb).mono ?_⟩
  rintro v h3 ⟨s3, u3, rfl⟩
  rw [List.take_zero] at s3
  have b3 := u3.at b0 (by rintro (e | e) <;> omega)
  obtain ⟨mc, mp, hc, hp, hl⟩ := s3
  have hnc : (mKeys mc).Nodup := by obtain ⟨_, _, _, _, h0, _⟩ := hc; exact h0
  have hnp : (mKeys mp).Nodup := by obtain ⟨_, _, _, _, h0, _⟩ := hp; exact h0
  have pGa : pgs (put b [] F) a = pgs F a := by rw [Dk.pgs_put hF, if_neg hab]
  have nb : ∀ j, mGet mp (b, j) = none := fun j => by
    cases hg : mGet mp (b, j) with
    | none => rfl
    | some _ =>
      have := hl.there b j (by rw [hg]; rfl)
      rw [Dk.pgs_put hF, if_pos rfl] at this
      simp at this; omega
  have rc := reads_count hc hl a
  rw [pGa] at rc
  refine ⟨rfl, some c, reads_load scMc (cell_cells0 b3 rfl), _, rc, ?_⟩
  refine ⟨fun n8 h9 => ∃ (i : Nat) (mp' : List ((Str × Int) × Str)), n8 = i ∧ i ≤ (pgs F a).length ∧ h9[h.size]? = some (Obj.cells (Array.mk [Value.map (some c), Value.map (some p)]) 87 (0, 0)) ∧ MapAt Mc h9 c mc ∧ MapAt Mp h9 p mp' ∧ (mKeys mp').Nodup ∧
      (∀ q j, mGet mp' (q, j) = if q = a ∧ 0 ≤ j ∧ j < (i : Int) then none else if q = b ∧ 0 ≤ j ∧ j < (i : Int) then mGet mp (a, j) else mGet mp (q, j)) ∧ Upd (two c p) h h9,
    fun n8 _ => (pgs F a).length - n8.toNat, ⟨0, mp, rfl, by omega, b3, hc, hp, hnp, fun q j => by rw [if_neg (by omega), if_neg (by omega)], (kH.upd _).trans u3⟩, ?_⟩
  rintro n8 h9 ⟨i, mp', rfl, hi, b9, c9, p9, nd9, m9, u9⟩
  refine br_intro (fun hlt => ?_) (fun hge => ?_)
  · have hlt : i < (pgs F a).length := by have : (i : Int) < (pgs F a).length := by simpa using hlt
                                          omega
    have hwi : IntKind.i64.wrap ((i : Int) + 1) = ((i + 1 : Nat) : Int) := by rw [wrap_i64 (by omega) (by omega)]; rfl
    have hlk := (reads_lookup (k := (a, (i : Int))) p9 zP).2
    have hai : mGet mp' (a, (i : Int)) = mGet mp (a, (i : Int)) := by rw [m9, if_neg (by omega), if_neg (fun h => hab h.1)]
    have hzs : (zc Try.prog 96).size = 512 := zcPage
    have stp : ∀ (q : Str) {K : Unit → Heap → Prop}, K () (h9.push (.cells (pgC q).toArray 96 (0, 0))) →
        SVC Try.prog (Instr.storeAt 96 (.pointer (some ⟨h9.size, 0, none⟩)) (pv q)) (h9.push (.cells (zc Try.prog 96) 96 (0, 0))) K := fun q K hk => by
      refine svc_store_new (v := pv q) ?_ ?_ ?_ hk
      · show szOf _ _ = some (pgC _).toArray.size; rw [List.size_toArray, pgC_len]; exact szPage
      · exact zcPage.trans (pgC_len _).symm
      · exact pgC_one _
    refine ⟨some p, reads_load scMp (cell_cells b9 rfl), ?_⟩
    cases hg : mGet mp' (a, (i : Int)) with
    | some q =>
      rw [hg] at hlk
      refine ⟨(pgC q).toArray, true, hlk, zc Try.prog 96, ⟨rfl⟩, stp q ?_⟩
      have hat := push_at h9 (.cells (pgC q).toArray 96 (0, 0))
      have kp := keep_push h9 (.cells (pgC q).toArray 96 (0, 0))
      have b15 := kp.at b9 (at_lt b9)
      have hlp := p9.lt
      refine br_intro (fun _ => ?_) (fun e => by cases e)
      refine ⟨some p, reads_load scMp (cell_cells b15 rfl), (pgC q).toArray, reads_load_agg agPage (pgC_len q) (cells_all hat), svc_mapUpdate (M := Mp) (k := (b, (i : Int))) (v := q) (p9.keep kp) fun h19 s19 u19 m19 => ?_⟩
      have b19 := u19.at b15 (by omega)
      refine ⟨some p, reads_load scMp (cell_cells b19 rfl), svc_delete (M := Mp) (k := (a, (i : Int))) m19 fun h22 s22 u22 m22 => ⟨rfl, ?_⟩⟩
      rw [hwi]
      have nd19 := mNodup_put (v := q) nd9 (b, (i : Int))
      have u2 : Upd (two c p) h9 h22 := (kp.upd _).trans ((u19.mono fun x e => .inr e).trans (u22.mono fun x e => .inr e))
      refine ⟨⟨i + 1, _, rfl, hlt, u22.at b19 (by omega), ((c9.keep kp).upd u19 hne).upd u22 hne, m22, mNodup_del nd19 _, fun r j => ?_, u9.trans u2⟩, by dsimp only; omega⟩
      rw [mGet_del nd19, mGet_put, m9]
      by_cases e1 : (a, (i : Int)) = (r, j)
      · cases e1; rw [if_pos rfl, if_pos ⟨rfl, by omega, by omega⟩]
      · rw [if_neg e1]
        by_cases e2 : (b, (i : Int)) = (r, j)
        · cases e2
          rw [if_pos rfl, if_neg (fun h => hab h.1.symm), if_pos ⟨rfl, by omega, by omega⟩, ← hai, hg]
        · rw [if_neg e2]
          have hj : ∀ s, r = s → (s, (i : Int)) ≠ (r, j) → j ≠ i := fun s h1 h2 h3 => h2 (by rw [h3, h1])
          by_cases f1 : r = a
          · have := hj a f1 e1
            by_cases hr : 0 ≤ j ∧ j < (i : Int)
            · rw [if_pos ⟨f1, hr⟩, if_pos ⟨f1, by omega, by omega⟩]
            · rw [if_neg (fun h => hr h.2), if_neg (fun h => hab (f1 ▸ h.1)), if_neg (fun h => hr ⟨h.2.1, by omega⟩), if_neg (fun h => hab (f1 ▸ h.1))]
          · simp only [f1, false_and, if_false]
            by_cases f2 : r = b
            · have := hj b f2 e2
              by_cases hr : 0 ≤ j ∧ j < (i : Int)
              · rw [if_pos ⟨f2, hr⟩, if_pos ⟨f2, by omega, by omega⟩]
              · rw [if_neg (fun h => hr h.2), if_neg (fun h => hr ⟨h.2.1, by omega⟩)]
            · rw [if_neg (fun h => f2 h.1), if_neg (fun h => f2 h.1)]
    | none =>
      rw [hg] at hlk
      refine ⟨(pgC zp).toArray, false, hlk, zc Try.prog 96, ⟨rfl⟩, stp zp ?_⟩
      have kp := keep_push h9 (.cells (pgC zp).toArray 96 (0, 0))
      refine br_intro (fun e => by cases e) (fun _ => ?_)
      rw [hwi]
      refine ⟨⟨i + 1, mp', rfl, hlt, kp.at b9 (at_lt b9), c9.keep kp, p9.keep kp, nd9, fun r j => ?_, u9.trans (kp.upd _)⟩, by dsimp only; omega⟩
      by_cases f1 : r = a
      · by_cases hr : j = i
        · subst hr; rw [f1, hg, if_pos ⟨rfl, by omega, by omega⟩]
        · rw [m9]
          by_cases hr2 : 0 ≤ j ∧ j < (i : Int)
          · rw [if_pos ⟨f1, hr2⟩, if_pos ⟨f1, by omega, by omega⟩]
          · rw [if_neg (fun h => hr2 h.2), if_neg (fun h => hab (f1 ▸ h.1)), if_neg (fun h => hr2 ⟨h.2.1, by omega⟩), if_neg (fun h => hab (f1 ▸ h.1))]
      · rw [m9]
        simp only [f1, false_and, if_false]
        by_cases f2 : r = b
        · by_cases hr : j = i
          · subst hr
            rw [f2, if_neg (by omega), if_pos ⟨rfl, by omega, by omega⟩, nb, ← hai, hg]
          · by_cases hr2 : 0 ≤ j ∧ j < (i : Int)
            · rw [if_pos ⟨f2, hr2⟩, if_pos ⟨f2, by omega, by omega⟩]
            · rw [if_neg (fun h => hr2 h.2), if_neg (fun h => hr2 ⟨h.2.1, by omega⟩)]
        · rw [if_neg (fun h => f2 h.1), if_neg (fun h => f2 h.1)]
  · have hi' : i = (pgs F a).length := by have : ¬ (i : Int) < (pgs F a).length := by simpa using hge
                                          omega
    subst hi'
    have rc9 := reads_count c9 hl a
    rw [pGa] at rc9
    refine ⟨some c, reads_load scMc (cell_cells0 b9 rfl), some c, reads_load scMc (cell_cells0 b9 rfl), _, rc9, svc_mapUpdate (M := Mc) (k := b) (v := ((pgs F a).length : Int)) c9 fun h27 s27 u27 m27 => ?_⟩
    have hlc := c9.lt
    have b27 := u27.at b9 (by omega)
    have ndc := mNodup_put (v := ((pgs F a).length : Int)) hnc b
    refine ⟨some c, reads_load scMc (cell_cells0 b27 rfl), svc_delete (M := Mc) (k := a) m27 fun h30 s30 u30 m30 => ⟨rfl, ?_⟩⟩
    exact ⟨⟨_, _, m30, (p9.upd u27 (Ne.symm hne)).upd u30 (Ne.symm hne), hl.move hab hF ndc m9⟩, u9.trans ((u27.mono fun x e => .inl e).trans (u30.mono fun x e => .inl e)), by first | rfl | trivial⟩
end Go.Proofs.Ytembbemljejjbaa
