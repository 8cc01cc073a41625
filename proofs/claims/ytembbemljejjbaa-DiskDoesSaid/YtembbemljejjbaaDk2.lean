/-
  The disk's sides: a page set, what is free. Conditions: none.
-/
import Derived.Test.YtembbemljejjbaaDk1
set_option linter.unusedVariables false
set_option linter.unusedSimpArgs false
set_option maxRecDepth 100000
namespace Go.Proofs.Ytembbemljejjbaa
open Go Go.Vc Go.Proofs Go.Dk

theorem setP_len (l : List Str) (i : Nat) (p : Str) : (setP l i p).length = max l.length (i + 1) := by simp [setP]; omega
theorem setP_get (l : List Str) (i : Nat) (p : Str) (j : Nat) : (setP l i p).getD j zp = if j = i then p else l.getD j zp := by
  unfold setP
  simp only [List.getD_eq_getElem?_getD, List.getElem?_set]
  by_cases h : i = j
  · subst h; simp; rw [if_pos (by omega)]; rfl
  · simp only [if_neg h, if_neg (Ne.symm h)]
    by_cases hj : j < l.length
    · simp [List.getElem?_append_left hj]
    · rw [List.getElem?_append_right (by omega), List.getElem?_eq_none (l := l) (by omega), List.getElem?_replicate]
      split <;> rfl
theorem pgs_put {F : Fs} (h : SrtF F) (n : Str) (l : List Str) (q : Str) : pgs (put n l F) q = if q = n then l else pgs F q := by
  unfold pgs; rw [get_put h]; split <;> rfl
theorem Like.look {F : Fs} {mc : List (Str × Int)} {mp : List ((Str × Int) × Str)} (hl : Like F mc mp) (n : Str) : (mGet mc n).getD 0 = ((pgs F n).length : Int) := by
  rw [hl.count]; unfold pgs; cases mGet F n <;> rfl
theorem Like.set {F : Fs} {mc : List (Str × Int)} {mp : List ((Str × Int) × Str)} (hl : Like F mc mp) (hs : SrtF F) (n : Str) (i : Nat) (q : Str) (k : Int) (hk : k = max ((pgs F n).length : Int) (i + 1)) :
    Like (put n (setP (pgs F n) i q) F) (mPut mc n k) (mPut mp (n, (i : Int)) q) := by
  refine ⟨fun m => ?_, fun m j => ?_, fun m j hj => ?_⟩
  · rw [mGet_put, get_put hs]
    by_cases h : n = m
    · subst h; simp [setP_len, hk]; omega
    · rw [if_neg h, if_neg (Ne.symm h)]; exact hl.count m
  · rw [mGet_put]
    unfold pg
    rw [pgs_put hs]
    have h0 := hl.page m j
    unfold pg at h0
    by_cases h : m = n
    · subst h
      rw [if_pos rfl]
      by_cases hj : (i : Int) = j
      · subst hj; rw [if_pos rfl, if_pos (by omega)]; simp only [Int.toNat_natCast, setP_get, if_true, Option.getD_some]
      · rw [if_neg (by simpa using hj), h0]
        by_cases h1 : 0 ≤ j
        · simp only [if_pos h1, setP_get]; rw [if_neg (by omega)]
        · simp only [if_neg h1]
    · rw [if_neg h, if_neg (by intro e; exact h (Prod.ext_iff.1 e).1.symm)]; exact h0
  · rw [mGet_put] at hj
    rw [pgs_put hs]
    by_cases h : m = n
    · subst h
      rw [if_pos rfl, setP_len]
      by_cases hij : (i : Int) = j
      · subst hij; omega
      · rw [if_neg (by simpa using hij)] at hj
        have := hl.there m j hj; omega
    · rw [if_neg h]; rw [if_neg (by intro e; exact h (Prod.ext_iff.1 e).1.symm)] at hj; exact hl.there m j hj

theorem pgC_one (q : Str) : oneCells (pgC q) := fun v hv => by
  simp only [pgC, List.mem_map] at hv
  obtain ⟨j, _, rfl⟩ := hv
  exact one_int _ _

/-- a side's map is looked up. -/
theorem reads_count {h : Heap} {c : Nat} {F : Fs} {mc : List (Str × Int)} {mp : List ((Str × Int) × Str)} (hc : MapAt Mc h c mc) (hl : Like F mc mp) (s : Str) :
    Reads Try.prog (Instr.lookup 84 (.map (some c)) (.string s) false) h (.int .i64 (pgs F s).length) := by
  have := (reads_lookup (k := s) hc zI).1
  rw [← hl.look]
  cases hg : mGet mc s <;> (rw [hg] at this; exact this)
theorem reads_count2 {h : Heap} {c : Nat} {F : Fs} {mc : List (Str × Int)} {mp : List ((Str × Int) × Str)} (hc : MapAt Mc h c mc) (hl : Like F mc mp) (s : Str) :
    Reads Try.prog (Instr.lookup 84 (.map (some c)) (.string s) true) h (.tuple #[.int .i64 (pgs F s).length, .bool (mGet F s).isSome]) := by
  have := (reads_lookup (k := s) hc zI).2
  rw [← hl.look]
  have hi : (mGet F s).isSome = (mGet mc s).isSome := by rw [hl.count]; cases mGet F s <;> rfl
  rw [hi]
  cases hg : mGet mc s <;> (rw [hg] at this; exact this)
theorem reads_page {h : Heap} {p : Nat} {F : Fs} {mc : List (Str × Int)} {mp : List ((Str × Int) × Str)} (hp : MapAt Mp h p mp) (hl : Like F mc mp) (s : Str) (i : Int) :
    Reads Try.prog (Instr.lookup 85 (.map (some p)) (.agg #[.string s, .int .i64 i]) false) h (pv (pg F s i)) := by
  have := (reads_lookup (k := (s, i)) hp zP).1
  rw [← hl.page]
  cases hg : mGet mp (s, i) <;> (rw [hg] at this; exact this)
theorem reads_page2 {h : Heap} {p : Nat} {F : Fs} {mc : List (Str × Int)} {mp : List ((Str × Int) × Str)} (hp : MapAt Mp h p mp) (hl : Like F mc mp) (s : Str) (i : Int) :
    Reads Try.prog (Instr.lookup 85 (.map (some p)) (.agg #[.string s, .int .i64 i]) true) h (.tuple #[pv (pg F s i), .bool (mGet mp (s, i)).isSome]) := by
  have := (reads_lookup (k := (s, i)) hp zP).2
  rw [← hl.page]
  cases hg : mGet mp (s, i) <;> (rw [hg] at this; exact this)

/-- one of two blocks. -/
def two (c p b : Nat) : Prop := b = c ∨ b = p

theorem set_spec {h : Heap} {c p : Nat} {F : Fs} {s q : Str} {i : Nat} (hs : SideAt h c p F) (hF : SrtF F) (hne : c ≠ p) (hi : i < 4611686018427387904) :
    HC Try.prog 49 #[.agg #[.map (some c), .map (some p)], .agg #[.string s, .int .i64 i], pv q] h
      fun v h' => SideAt h' c p (put s (setP (pgs F s) i q) F) ∧ Upd (two c p) h h' ∧ v = .tuple #[] := by
  obtain ⟨mc, mp, hc, hp, hl⟩ := hs
  refine HC_of_vc (args := [.agg #[.map (some c), .map (some p)], .agg #[.string s, .int .i64 i], pv q]) (base := 23) (cuts := []) (bigs := []) hm Try.func49 ?_
  unfold pv
  rw [vcSet]
  generalize hH : (((Array.push h (Obj.cells (Array.mk [Value.map (some c), Value.map (some p)]) 87)).push (Obj.cells (Array.mk [Value.string s, Value.int IntKind.i64 i]) 94)).push (Obj.cells (pgC q).toArray 96)) = H
  have b0 : H[h.size]? = some (Obj.cells (Array.mk [Value.map (some c), Value.map (some p)]) 87) := by rw [← hH]; exact push3_0 _ _ _ _
  have b1 : H[h.size + 1]? = some (Obj.cells (Array.mk [Value.string s, Value.int IntKind.i64 i]) 94) := by rw [← hH]; exact push3_1 _ _ _ _
  have b2 : H[h.size + 2]? = some (Obj.cells (pgC q).toArray 96) := by rw [← hH]; exact push3_2 _ _ _ _
  have kH : Keep h.size h H := by rw [← hH]; exact ((keep_push h _).trans (Keep.push _ _ _ (by simp))).trans (Keep.push _ _ _ (by simp; omega))
  clear hH
  simp only [Array.size_push]
  have lc := hc.lt
  have lp := hp.lt
  refine ⟨some p, reads_load scMp (cell_cells b0 rfl), s, (i : Int), reads_load_agg (cs := [.string s, .int .i64 i]) agAt rfl (cells_all b1), (pgC q).toArray, reads_load_agg agPage (pgC_len q) (cells_all b2), ?_⟩
  refine svc_mapUpdate (M := Mp) (k := (s, (i : Int))) (v := q) (hp.keep kH) fun h5 s5 u5 m5 => ?_
  have c0 := u5.at b0 (by omega)
  have c1 := u5.at b1 (by omega)
  have hc5 := (hc.keep kH).upd u5 hne
  refine ⟨some c, reads_load scMc (cell_cells0 c0 rfl), s, reads_load scS (cell_cells0 c1 rfl), some c, reads_load scMc (cell_cells0 c0 rfl), s, reads_load scS (cell_cells0 c1 rfl), _, reads_count hc5 hl s, (i : Int), reads_load scI (cell_cells c1 rfl), _, reads_max, ?_⟩
  have hlen : ((pgs F s).length : Int) = (mGet mc s).getD 0 := (hl.look s).symm
  refine svc_mapUpdate (M := Mc) (k := s) (v := _) hc5 fun h14 s14 u14 m14 => ?_
  refine ⟨⟨_, _, m14, m5.upd u14 (Ne.symm hne), hl.set hF s i q _ ?_⟩, (kH.upd _).trans ((u5.mono fun b e => .inr e).trans (u14.mono fun b e => .inl e)), by first | rfl | trivial⟩
  rw [wrap_i64 (by omega) (by omega)]
  omega

theorem free_spec {h : Heap} {d : Nat} {x : D} {O : Nat → Prop} (hd : DiskAt h d x O) :
    HC Try.prog 22 #[.pointer (some ⟨d, 0, none⟩)] h fun v h' => Keep h.size h h' ∧ v = .int .i64 (free x) := by
  obtain ⟨hO, c1, p1, c2, p2, A, n, c, hp, hb⟩ := hd
  obtain ⟨mc, mp, hc, hmp, hl⟩ := hp.now
  have hnd : (mKeys mc).Nodup := by obtain ⟨_, _, _, _, h0, _⟩ := hc; exact h0
  have hnn : ∀ q ∈ mc, 0 ≤ q.2 := fun q hq => by
    have h0 := (mGet_mem hnd q.1 q.2).1 hq
    rw [hl.count] at h0
    cases hg : mGet x.now q.1 with
    | none => rw [hg] at h0; cases h0
    | some l => rw [hg] at h0; simp at h0; omega
  have htot : sumV mc = tot x.now := by
    have hk : mKeys (x.now.map fun q => (q.1, (q.2.length : Int))) = names x.now := by simp [mKeys]
    have hg : ∀ (F : Fs) k, mGet (F.map fun q => (q.1, (q.2.length : Int))) k = (mGet F k).map fun l => (l.length : Int) := by
      intro F k
      induction F with
      | nil => rfl
      | cons q F ih => by_cases h0 : q.1 = k <;> simp [mGet, h0, ih]
    have hpm := perm_of_get hnd (by rw [hk]; exact srt_nodup hp.ok.now) fun k => (hl.count k).trans (hg x.now k).symm
    rw [sumV_perm hpm]
    generalize x.now = F
    induction F with
    | nil => rfl
    | cons q F ih => simp [sumV, tot] at ih ⊢; omega
  have hroom := hp.ok.tot
  have hr := hp.ok.room
  refine HC_of_vc (args := [.pointer (some ⟨d, 0, none⟩)]) (base := 26) (cuts := []) (bigs := []) hm Try.func22 ?_
  rw [vcFree]
  refine ⟨_, reads_eql_nil undD, br_intro (fun e => by cases e) fun _ => ⟨_, rfl, (x.room : Int), reads_load scI (hp.rd rfl), _, rfl, some c1, reads_load scMc (cell_cells0 hp.box rfl), ?_⟩⟩
  refine svc_range (M := Mc) hc fun h6 k6 s6 i6 => ⟨_, rfl, ?_⟩
  refine ⟨fun n10 h11 => ∃ left cur, IterAt Mc h11 h.size c1 mc left cur ∧ Keep h.size h h11 ∧ n10 = x.room - (sumV mc - sumV left) ∧ (∀ q ∈ left, 0 ≤ q.2) ∧ 0 ≤ sumV left ∧ sumV left ≤ sumV mc,
    fun n10 h11 => match h11[h.size]? with | some (.mapIter _ _ seen _) => (match h11[c1]? with | some (.map es _) => (leftOf es seen).size | _ => 0) | _ => 0,
    ⟨mc, none, i6, k6, by omega, hnn, sumV_nonneg hnn, Int.le_refl _⟩, ?_⟩
  rintro n10 h11 ⟨left, cur, hit, k11, rfl, hnl, h0, h1⟩
  have size : ∀ {h' : Heap} {left : List (Str × Int)} {cur}, IterAt Mc h' h.size c1 mc left cur → (match h'[h.size]? with | some (.mapIter _ _ seen _) => (match h'[c1]? with | some (.map es _) => (leftOf es seen).size | _ => 0) | _ => 0) = left.length := by
    rintro h' left cur ⟨es, clock, since, seen, last, e1, _, _, _, _, e2, _, _, _, e3, _⟩
    rw [e2, e1]
    have := congrArg List.length e3
    simpa using this
  refine svc_next hit (fun hl0 => .inl ⟨rfl, k11, ?_⟩) fun j q h13 hj u13 s13 i13 => .inr ⟨_, _, rfl, _, _, reads_entry i13, ⟨left.eraseIdx j, some q, i13, k11.trans ⟨by omega, fun b hb => u13.block b (by have := k11.size; omega) (by omega)⟩, ?_, fun r hr => hnl r (List.mem_of_mem_eraseIdx hr), ?_, ?_⟩, ?_⟩
  · subst hl0
    show Value.int .i64 _ = _
    congr 1
    unfold free
    rw [← htot]
    simp [sumV]
  · have hq := hnl q (List.mem_of_getElem? hj)
    have he := sumV_erase left j q hj
    have hn0 : 0 ≤ sumV (left.eraseIdx j) := sumV_nonneg fun r hr => hnl r (List.mem_of_mem_eraseIdx hr)
    rw [wrap_i64 (by omega) (by omega)]; omega
  · exact sumV_nonneg fun r hr => hnl r (List.mem_of_mem_eraseIdx hr)
  · have hq := hnl q (List.mem_of_getElem? hj)
    have he := sumV_erase left j q hj
    omega
  · dsimp only
    rw [size i13, size hit, List.length_eraseIdx]
    have := (List.getElem?_eq_some_iff.1 hj).1
    rw [if_pos this]; omega
end Go.Proofs.Ytembbemljejjbaa
