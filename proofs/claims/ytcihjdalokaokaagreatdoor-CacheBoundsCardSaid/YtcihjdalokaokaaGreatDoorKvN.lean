/-
  A store in memory scanned: the memory store does what one asks of a store. Conditions: none.
-/
import Derived.Test.YtcihjdalokaokaaGreatDoorKvM
import Derived.Test.YtcihjdalokaokaaGreatDoorKvC0
import Derived.Test.YtcihjdalokaokaaGreatDoorVcSo
import Derived.Test.YtcihjdalokaokaaGreatDoorVcQ
set_option linter.unusedVariables false
set_option linter.unusedSimpArgs false
set_option maxRecDepth 100000
namespace Go.Proofs.YtcihjdalokaokaaGreatDoor
open Go Go.Vc Go.Proofs Go.Dk Go.Kv

theorem app_pr : App Tryz.prog 31 53 StrPairE.sz 32 (.agg #[.string ⟨#[]⟩, .string ⟨#[]⟩]) := ⟨by kernel_rfl, by kernel_rfl, by kernel_rfl, by kernel_rfl, rfl, by decide, by decide⟩
theorem bs_pr (p : Str × Str) : bsCells Tryz.prog 31 1 [(0, .agg #[.string p.1, .string p.2])] = some (53, StrPairE.enc p) :=
  bs_one (sz := 2) (z := .agg #[.string ⟨#[]⟩, .string ⟨#[]⟩]) (v := .agg #[.string p.1, .string p.2]) (by kernel_rfl) (by kernel_rfl) (by kernel_rfl) rfl (by decide) (by decide) rfl
theorem isAggPr : ∀ w, (isAgg 53).run Tryz.prog w = .ok true w := (agT_spec (P := Tryz.prog) (t := 53) (n := 2) (by kernel_rfl)).1
theorem sortPr_spec {h : Heap} {B n c : Nat} {a : Option Addr} {xs : List (Str × Str)} (ho : Own StrPairE 53 B h a n c xs) (hn : n < 4611686018427387904) :
    HC Tryz.prog 304 #[.slice a n c, .func (.func 305) #[] #[]] h fun v h' => v = .tuple #[] ∧ ∃ ys, Own StrPairE 53 B h' a n c ys ∧ ys.Perm xs ∧ ys.Pairwise (fun x y => lt y.1 x.1 = false) ∧ Upd (blk a) h h' := by
  have hcall := fun (b cap : Nat) (d : Array (Str × Str)) (w : World) hH hb hs =>
    AnyQ.slices_SortFunc Tryz.sortPr 2 isAggPr Tryz.sizeOf53 StrPairE.enc (fun _ => rfl) (fun x v hv => by simp [StrPairE] at hv; rcases hv with rfl | rfl <;> rfl) (fun x y => cmpS x.1 y.1) (swoKey fun x : Str × Str => x.1) 305 #[] b 0 cap d w (enters_of Tryz.func305 (by kernel_rfl) rfl) (fun _ _ _ _ x y => Tryz.lessPr x y _) hH hb hs
  have hnone := fun (cap : Nat) (w : World) => AnyF.slices_SortFunc_none Tryz.sortPr none cap (.func (.func 305) #[] #[]) w
  refine (sort_hc (f := 304) (g := 305) ho hn hcall hnone).mono ?_
  rintro v h' ⟨rfl, ys, oy, hp, hs, u⟩
  refine ⟨rfl, ys, oy, hp, hs.imp fun {x y} h => ?_, u⟩
  have : ltOf (fun x y : Str × Str => cmpS x.1 y.1) y x = lt y.1 x.1 := cmpS_lt _ _
  rw [← this]; exact h
/-- sorted and the same pairs: the same list. -/
theorem sorted_eq {ys xs : List (Str × Str)} (hp : ys.Perm xs) (hs : ys.Pairwise fun x y => lt y.1 x.1 = false) (hx : SrtP xs) : ys = xs := by
  have hn : (mKeys xs).Nodup := srt_nodup hx
  have hny : (mKeys ys).Nodup := (hp.map fun p : Str × Str => p.1).nodup_iff.2 hn
  have hsy : SrtP ys := by
    have h1 : ys.Pairwise fun x y => x.1 ≠ y.1 := List.pairwise_map.1 hny
    refine List.pairwise_map.2 ((hs.and h1).imp fun {x y} h => ?_)
    cases h2 : lt x.1 y.1 with
    | true => rfl
    | false => exact absurd (lt_total h2 h.1) h.2
  refine ps_ext hsy hx fun q => ?_
  cases h1 : mGet ys q with
  | none =>
    cases h2 : mGet xs q with
    | none => rfl
    | some v => rw [(mGet_mem hny q v).1 (hp.mem_iff.2 ((mGet_mem hn q v).2 h2))] at h1; cases h1
  | some v => exact ((mGet_mem hn q v).1 (hp.mem_iff.1 ((mGet_mem hny q v).2 h1))).symm
theorem perm_pick {α : Type} : ∀ {l : List α} {j : Nat} {p : α}, l[j]? = some p → (p :: l.eraseIdx j).Perm l
  | [], _, _, h => by simp at h
  | a :: l, 0, p, h => by
    simp at h; subst h; exact List.Perm.refl _
  | a :: l, j + 1, p, h => by
    rw [List.getElem?_cons_succ] at h
    rw [List.eraseIdx_cons_succ]
    exact (List.Perm.swap a p _).trans ((perm_pick h).cons a)
section
variable {s u : Nat} {N : Nat → Prop} {P : Ps Str} {h : Heap}
set_option maxHeartbeats 1000000 in
theorem mscan_spec {r : Nat} {m : List (Str × Str)} (hma : MapAt Ms h r m) (hsP : SrtP P) (hg : ∀ k, mGet m k = mGet P k) (hP : P.length ≤ 1000000) (k : Str) (n : Int) :
    HC Tryz.prog 301 #[.agg #[.map (some r)], .string k, .int .i64 n] h fun v h' => Keep h.size h h' ∧ ∃ a c, v = .tuple #[.slice a (scan P k n).length c, .int .i64 0] ∧ Sl StrPairE h' a (scan P k n).length (scan P k n) ∧ (∀ q, blk a q → h.size ≤ q ∧ q < h'.size) := by
  have hnm : (mKeys m).Nodup := by obtain ⟨_, _, _, _, h, _⟩ := hma; exact h
  have hperm : m.Perm P := perm_of_get hnm (srt_nodup hsP) hg
  have hml : m.length = P.length := hperm.length_eq
  refine HC_of_vc (args := [.agg #[.map (some r)], .string k, .int .i64 n]) (base := 37) (cuts := []) (bigs := []) kM Tryz.func301 ?_
  rw [vcMScan]
  have kp := keep_push h (Obj.cells #[Value.map (some r)] 140 (0, 0))
  have bp := push_at h (Obj.cells #[Value.map (some r)] 140 (0, 0))
  have zp : (h.push (Obj.cells #[Value.map (some r)] 140 (0, 0))).size = h.size + 1 := by simp
  refine ⟨_, reads_load kMs (cell_cells0 bp rfl), ?_⟩
  generalize h.push (Obj.cells #[Value.map (some r)] 140 (0, 0)) = H at kp bp zp
  refine svc_range (hma.keep kp) fun h2 k2 z2 it2 => ⟨_, rfl, ?_⟩
  refine ⟨fun a n' c' G => ∃ (left out : List (Str × Str)) (cur : Option (Str × Str)), Keep h.size h G ∧ h2.size ≤ G.size ∧ IterAt Ms G H.size r m left cur ∧ Own StrPairE 53 h2.size G a n' c' out ∧ (out ++ left.filter fun p => !lt p.1 k).Perm (m.filter fun p => !lt p.1 k),
    fun _ _ _ G => leftN G H.size, ⟨m, [], none, kp.trans (k2.mono kp.size), Nat.le_refl _, it2, Own.nil _ _ _, by simp⟩, ?_⟩
  rintro a6 k7 k8 G ⟨left, out, cur, kG, zG, itG, oG, hpm⟩
  have hlt := itG.lt
  have hlo : out.length ≤ m.length := by
    have := hpm.length_eq
    have h2 := List.length_filter_le (fun p : Str × Str => !lt p.1 k) m
    rw [List.length_append] at this; omega
  have hk7 := oG.1
  have hzH : H.size ≤ h2.size := by omega
  refine svc_next itG (fun hl => .inl ⟨rfl, ?_⟩) fun j p h11 hp u11 z11 it11 => .inr ⟨_, _, rfl, ?_⟩
  · subst hl
    simp only [List.filter_nil, List.append_nil] at hpm
    refine (sortPr_spec oG (by omega)).mono ?_
    rintro v h13 ⟨rfl, ys, oy, hpy, hsy, u13⟩
    have hey : ys = P.filter fun p => !lt p.1 k := by
      refine sorted_eq ((hpy.trans hpm).trans (hperm.filter _)) hsy ?_
      exact List.Pairwise.sublist (List.filter_sublist.map _) hsP
    have hyl := oy.1
    have hc8 := oy.2.1
    refine ⟨rfl, _, reads_min, _, reads_max, ?_⟩
    have hlen : (scan P k n).length = min n.toNat k7 := by unfold scan; rw [List.length_take, ← hey, hyl]
    have hv : (if (0 : Int) > (if (k7 : Int) < n then (k7 : Int) else n) then (0 : Int) else (if (k7 : Int) < n then (k7 : Int) else n)) = ((scan P k n).length : Nat) := by
      rw [hlen]
      split <;> split at * <;> omega
    rw [hv]
    have k13 : Keep h.size h h13 := kG.trans (u13.keep kG.size fun q hq => by have := (oG.block q hq).1; have := kp.size; omega)
    refine ⟨⟨by omega, by omega, by omega⟩, k13, a6, k8, by rw [Int.toNat_natCast], ?_, fun q hq => ?_⟩
    · refine ⟨rfl, ?_⟩
      rcases oy.sl.2 with h0 | ⟨p, ea, hp⟩
      · left; unfold scan; rw [← hey, h0]; simp
      · refine .inr ⟨p, ea, fun i x hx => hp i x ?_⟩
        unfold scan at hx
        rw [← hey, List.getElem?_take] at hx
        split at hx
        · exact hx
        · cases hx
    · have := oy.block q hq; have := kp.size; omega
  · refine ⟨p.1, p.2, reads_entry it11, ?_⟩
    have hpk := perm_pick hp
    have o11 := oG.upd u11 fun q hq e => by have := (oG.block q hq).1; omega
    have k11 : Keep h.size h h11 := kG.trans (u11.keep kG.size fun q hq => by have := kp.size; omega)
    have hmeas : leftN h11 H.size < leftN G H.size := by
      rw [it11.leftN, itG.leftN]
      have := hpk.length_eq
      simp only [List.length_cons] at this; omega
    have hpf := (hpk.filter fun p => !lt p.1 k)
    rw [List.filter_cons] at hpf
    refine br_intro (fun e => ?_) fun e => ?_
    · have e : (!lt p.1 k) = true := e
      rw [if_pos e] at hpf
      refine svc_append1 (x := p) app_pr o11 (by omega) (bs_pr p) (by omega) fun a' c' h' o' u' b' => ?_
      have hh : ∀ q, blk a6 q → h2.size ≤ q := fun q hq => (o11.block q hq).1
      have it' := it11.upd u' (fun hq => by have := hh _ hq; omega) fun hq => by
        have := hh _ hq
        have := hma.lt
        have := kp.size; omega
      refine ⟨⟨left.eraseIdx j, out ++ [p], some p, k11.trans (u'.keep k11.size fun q hq => by have := hh q hq; have := kp.size; omega), by have := u'.size; omega, it', o', ?_⟩, ?_⟩
      · refine List.Perm.trans ?_ hpm
        rw [List.append_assoc]
        exact List.Perm.append_left out hpf
      · dsimp only
        rw [it'.leftN, itG.leftN]
        have := hpk.length_eq
        simp only [List.length_cons] at this; omega
    · have e : (!lt p.1 k) = false := e
      rw [if_neg (by rw [e]; decide)] at hpf
      exact ⟨⟨left.eraseIdx j, out, some p, k11, by omega, it11, o11, (List.Perm.append_left out hpf).trans hpm⟩, hmeas⟩
theorem MemS.scan (hm : MemS s u N P h) (hP : P.length ≤ 1000000) (k : Str) (n : Int) : HC Tryz.prog 89 #[.pointer (some ⟨s, 0, none⟩), .string k, .int .i64 n] h fun v h' => MemS s u N P h' ∧ UpdM (fun q => ¬ N q) h h' ∧
    ∃ a c, v = .tuple #[.slice a (Kv.scan P k n).length c, .int .i64 0] ∧ Sl StrPairE h' a (Kv.scan P k n).length (Kv.scan P k n) ∧ (∀ q, blk a q → h.size ≤ q ∧ q < h'.size) := by
  have rdy := hm.ready
  obtain ⟨r, m, hb, hr, hma, hg⟩ := hm.at_
  refine HC_of_vc (args := [.pointer (some ⟨s, 0, none⟩), .string k, .int .i64 n]) (base := 23) (cuts := []) (bigs := []) kM Tryz.func89 ?_
  rw [vcStScan]
  refine rdy.mono ?_
  rintro v h1 ⟨rfl, rfl⟩
  refine ⟨_, rfl, br_intro (fun e => by simp at e) fun _ => ⟨_, rfl, _, reads_load kBe (cell_cells0 hb rfl), 301, _, meth_val (by kernel_rfl), (mscan_spec hma hm.srt hg hP k n).mono ?_⟩⟩
  rintro v h2 ⟨k2, a, c, rfl, sl, hbk⟩
  exact ⟨_, _, _, _, rfl, hm.keep k2, k2.m, a, c, rfl, sl, hbk⟩
/-- the memory store is a store. -/
theorem memSto (M s : Nat) : Sto M (MemS s) s := ⟨fun h => h.srt, fun h => h.lt, fun h u hT hN => h.own u hT hN, fun h k => h.get k, fun h hs hc hn hA hM => h.apply hs hc hn hA hM, fun h hP k n => h.scan hP k n⟩
end
end Go.Proofs.YtcihjdalokaokaaGreatDoor
